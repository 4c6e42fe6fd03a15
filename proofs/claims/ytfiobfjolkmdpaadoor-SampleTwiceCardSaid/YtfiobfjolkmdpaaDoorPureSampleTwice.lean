import Derived.Test.YtfiobfjolkmdpaaDoorDistPlain
import Derived.Test.YtfiobfjolkmdpaaDoorQSampx4
namespace Go.Proofs.YtfiobfjolkmdpaaDoor.Pure
open Go.RowKit Go.Proofs.YtfiobfjolkmdpaaDoor.QSamp Go.Proofs.YtfiobfjolkmdpaaDoorW.PrintWords Go.Proofs.YtfiobfjolkmdpaaDoorW.PrintLast Go.Proofs.YtfiobfjolkmdpaaDoorW.PrintMore
/-- The list of what g tells at 0, 1, .. -/
def bl (g : Nat → Int) : Nat → List Int
  | 0 => []
  | i + 1 => bl g i ++ [g i]
theorem bl_len (g : Nat → Int) : ∀ i, (bl g i).length = i
  | 0 => rfl
  | i + 1 => by
    unfold bl
    rw [List.length_append, bl_len g i]
    rfl
theorem rd_bl (g : Nat → Int) : ∀ {n p : Nat}, p < n → rd (bl g n) (p : Int) = g p
  | 0, _, h => absurd h (by omega)
  | n + 1, p, h => by
    have hl := bl_len g n
    unfold rd bl
    rw [Int.toNat_natCast, List.getD_eq_getElem?_getD]
    by_cases hp : p < n
    · have := rd_bl g hp
      unfold rd at this
      rw [Int.toNat_natCast, List.getD_eq_getElem?_getD] at this
      rw [List.getElem?_append_left (by omega)]
      exact this
    · have e : p = (bl g n).length := by omega
      rw [e, List.getElem?_append_right (Nat.le_refl _), Nat.sub_self, hl]
      rfl
theorem bl_wf {g : Nat → Int} (hg : ∀ p, (Lit.int .i64 (g p)).wf = true) : ∀ n, ∀ x ∈ bl g n, (Lit.int .i64 x).wf = true
  | 0, x, h => by simp [bl] at h
  | n + 1, x, h => by
    unfold bl at h
    rcases List.mem_append.1 h with h | h
    · exact bl_wf hg n x h
    · rw [List.mem_singleton.1 h]
      exact hg n
theorem awake_ev : stowagelaw10_awake.f 40 = some true := by decide +kernel
theorem awake_mono (k : Nat) : stowagelaw10_awake.f (40 + k) = some true := by
  induction k with
  | zero => exact awake_ev
  | succ k ih => exact stowagelaw10_awake.mono (40 + k) _ ih
/-- b has each number of a twice, one behind the other, up to n numbers of a. -/
def Dbl (a b : List Int) (n : Nat) : Prop := ∀ p : Nat, p < n → rd b ((2 * p : Nat) : Int) = rd a (p : Int) ∧ rd b ((2 * p + 1 : Nat) : Int) = rd a (p : Int)
theorem dbl_last {a b : List Int} {n : Nat} (h : Dbl a b n) (r : Int) : ∀ {i : Nat}, i ≤ n → lastOf b (2 * i) r = (lastOf a i r).map (fun j => 2 * j + 1)
  | 0, _ => rfl
  | i + 1, hi => by
    have e : 2 * (i + 1) = (2 * i + 1) + 1 := by omega
    obtain ⟨h0, h1⟩ := h i (by omega)
    rw [e, lastOf, lastOf, lastOf, h0, h1]
    by_cases he : rd a (i : Int) = r
    · rw [if_pos he, if_pos he]
      rfl
    · rw [if_neg he, if_neg he, if_neg he]
      exact dbl_last h r (by omega)
theorem sm_dbl {c d : Nat → Int} {s : Nat} : ∀ {n : Nat}, (∀ p, s ≤ p → p < s + n → c (2 * p) = 0 ∧ c (2 * p + 1) = d p) → sm c (2 * s) (2 * n) = sm d s n
  | 0, _ => rfl
  | n + 1, h => by
    have hp := h (s + n) (by omega) (by omega)
    have e : 2 * (n + 1) = 2 * n + 1 + 1 := by omega
    rw [e]
    show sm c (2 * s) (2 * n) + c (2 * s + 2 * n) + c (2 * s + (2 * n + 1)) = sm d s n + d (s + n)
    have e1 : 2 * s + 2 * n = 2 * (s + n) := by omega
    have e2 : 2 * s + (2 * n + 1) = 2 * (s + n) + 1 := by omega
    rw [e1, e2, hp.1, hp.2, sm_dbl (n := n) (fun p h1 h2 => h p h1 (by omega)), Int.add_zero]
theorem dbl_even {a b : List Int} {n i : Nat} (h : Dbl a b n) (hi : i < n) : dAt b (2 * i) = dAt a i := by
  have hl := dbl_last h (rd b ((2 * i : Nat) : Int)) (i := i) (by omega)
  unfold dAt
  rw [hl, (h i hi).1]
  cases he : lastOf a i (rd a (i : Int)) with
  | none => rfl
  | some j =>
    have hj := lastOf_lt he
    show sm (mk b (2 * i)) (2 * j + 1 + 1) (2 * i - (2 * j + 1 + 1)) = sm (mk a i) (j + 1) (i - (j + 1))
    have e1 : 2 * j + 1 + 1 = 2 * (j + 1) := by omega
    have e2 : 2 * i - 2 * (j + 1) = 2 * (i - (j + 1)) := by omega
    rw [e1, e2]
    refine sm_dbl (fun p _ hp => ?_)
    have hpi : p < i := by omega
    obtain ⟨h0, h1⟩ := h p (by omega)
    have hlp := dbl_last h (rd a (p : Int)) (i := i) (by omega)
    unfold mk
    rw [h0, h1, hlp]
    cases hx : lastOf a i (rd a (p : Int)) with
    | none =>
      rw [if_neg (fun x => by cases x.2), if_neg (fun x => by cases x.2), if_neg (fun x => by cases x.2)]
      exact ⟨rfl, rfl⟩
    | some q =>
      show (if 2 * p < 2 * i ∧ some (2 * q + 1) = some (2 * p) then (1 : Int) else 0) = 0 ∧ (if 2 * p + 1 < 2 * i ∧ some (2 * q + 1) = some (2 * p + 1) then (1 : Int) else 0) = (if p < i ∧ some q = some p then (1 : Int) else 0)
      rw [if_neg (fun x => by have := Option.some.inj x.2; omega)]
      refine ⟨rfl, ?_⟩
      by_cases hq : q = p
      · rw [hq, if_pos ⟨by omega, rfl⟩, if_pos ⟨hpi, rfl⟩]
      · rw [if_neg (fun x => by have := Option.some.inj x.2; omega), if_neg (fun x => hq (Option.some.inj x.2))]
theorem dbl_odd {a b : List Int} {n i : Nat} (h : Dbl a b n) (hi : i < n) : dAt b (2 * i + 1) = 0 := by
  obtain ⟨h0, h1⟩ := h i hi
  unfold dAt
  rw [h1, lastOf, h0, if_pos rfl]
  show sm _ (2 * i + 1) (2 * i + 1 - (2 * i + 1)) = 0
  rw [Nat.sub_self]
  rfl
theorem rd_specD (l : List Int) {n p : Nat} (h : p < n) : rd (specD l n) (p : Int) = dAt l p := by
  have e : ∀ n, specD l n = bl (dAt l) n := by
    intro n
    induction n with
    | zero => rfl
    | succ n ih => show specD l n ++ _ = bl _ n ++ _; rw [ih]
  rw [e, rd_bl _ h]
def tA (l : List Int) (p : Nat) : Int := wrap64 (rd l (p : Int))
def tB (l : List Int) (p : Nat) : Int := wrap64 (rd l ((p / 2 : Nat) : Int))
theorem tB_next (l : List Int) (i : Nat) : bl (tB l) (2 * (i + 1)) = bl (tB l) (2 * i) ++ [wrap64 (rd l (i : Int)), wrap64 (rd l (i : Int))] := by
  have e : 2 * (i + 1) = 2 * i + 1 + 1 := by omega
  have d0 : (2 * i) / 2 = i := by omega
  have d1 : (2 * i + 1) / 2 = i := by omega
  rw [e]
  show (bl (tB l) (2 * i) ++ [tB l (2 * i)]) ++ [tB l (2 * i + 1)] = _
  unfold tB
  rw [d0, d1, List.append_assoc]
  rfl
theorem twice_l0 {l : List Int} {N : Nat} (h1 : N ≤ l.length) (h2 : N ≤ 500) (h3 : N = l.length ∨ N = 500) : ∀ (n i k : Nat), N = i + n →
    stowagelaw10_SampleTwice.l0 (k + n + 1) l (bl (tA l) i) (bl (tB l) (2 * i)) (i : Int) = stowagelaw10_SampleTwice.j1 k (bl (tA l) N) (bl (tB l) (2 * N))
  | 0, i, k, hn => by
    have e : N = i := by omega
    subst e
    rw [Nat.add_zero, stowagelaw10_SampleTwice.l0]
    by_cases hl : (N : Int) < (l.length : Int)
    · rw [if_pos hl, if_neg (by omega)]
    · rw [if_neg hl]
  | n + 1, i, k, hn => by
    have ek : k + (n + 1) + 1 = (k + n + 1) + 1 := by omega
    have e : wrap64 ((i : Int) + 1) = ((i + 1 : Nat) : Int) := by unfold wrap64; omega
    have la := bl_len (tA l) i
    have lb' := bl_len (tB l) (2 * i)
    have i1 : (i : Int) < (l.length : Int) := by omega
    have i2 : (i : Int) < 500 := by omega
    have i3 : 0 ≤ (i : Int) := by omega
    have i4 : (bl (tA l) i).length < 17592186044416 := by omega
    have i5 : (bl (tB l) (2 * i)).length + [wrap64 (rd l (i : Int)), wrap64 (rd l (i : Int))].length < 17592186044416 := by
      show (bl (tB l) (2 * i)).length + 2 < _
      omega
    rw [ek, stowagelaw10_SampleTwice.l0, if_pos i1, if_pos i2, if_pos i3, if_pos i4, Option.bind_some, if_pos i5, e, ← tB_next]
    exact twice_l0 h1 h2 h3 n (i + 1) k (by omega)
theorem twice_l1 {a d e : List Int} {N : Nat} (ha : a.length = N) (hd : d.length = N) (he : e.length = 2 * N) (hN : N ≤ 500) (hv : ∀ p : Nat, p < N → rd e ((2 * p : Nat) : Int) = rd d (p : Int) ∧ rd e ((2 * p + 1 : Nat) : Int) = 0) : ∀ (n i k : Nat), N = i + n →
    stowagelaw10_SampleTwice.l1 (k + n + 1) a d e (i : Int) = some true
  | 0, i, k, hn => by
    rw [Nat.add_zero, stowagelaw10_SampleTwice.l1, if_neg (by omega)]
  | n + 1, i, k, hn => by
    have ek : k + (n + 1) + 1 = (k + n + 1) + 1 := by omega
    have e1 : wrap64 (2 * (i : Int)) = ((2 * i : Nat) : Int) := by unfold wrap64; omega
    have e2 : wrap64 (((2 * i : Nat) : Int) + 1) = ((2 * i + 1 : Nat) : Int) := by unfold wrap64; omega
    have e3 : wrap64 ((i : Int) + 1) = ((i + 1 : Nat) : Int) := by unfold wrap64; omega
    obtain ⟨v0, v1⟩ := hv i (by omega)
    have i1 : (i : Int) < (a.length : Int) := by omega
    have i2 : 0 ≤ ((2 * i : Nat) : Int) := by omega
    have i3 : ((2 * i : Nat) : Int) < (e.length : Int) := by omega
    have i4 : 0 ≤ (i : Int) := by omega
    have i5 : (i : Int) < (d.length : Int) := by omega
    have i6 : 0 ≤ ((2 * i + 1 : Nat) : Int) := by omega
    have i7 : ((2 * i + 1 : Nat) : Int) < (e.length : Int) := by omega
    rw [ek, stowagelaw10_SampleTwice.l1]
    simp only [e1, e2, e3, if_pos i1, if_pos i2, if_pos i3, if_pos i4, if_pos i5, if_pos i6, if_pos i7, v0, v1, if_true]
    exact twice_l1 ha hd he hN hv n (i + 1) k (by omega)
theorem SampleTwice : stowagelaw10_SampleTwice.Pure := by
  intro l _ _ _
  obtain ⟨N, hN⟩ : ∃ N, N = min l.length 500 := ⟨_, rfl⟩
  refine ⟨(10000 + N + 1 + 1 + 1) + N + 1, ?_⟩
  unfold stowagelaw10_SampleTwice.f
  refine (twice_l0 (l := l) (N := N) (by omega) (by omega) (by omega) N 0 (10000 + N + 1 + 1 + 1) (by omega)).trans ?_
  have hA := bl_len (tA l) N
  have hB := bl_len (tB l) (2 * N)
  have dA := dist_ev (l := bl (tA l) N) (k := 10000 + N + 1 + 1) (by omega) (bl_wf (fun p => wrap64_wf _) _) (by omega)
  have dB := dist_ev (l := bl (tB l) (2 * N)) (k := 10000 + N + 1 + 1) (by omega) (bl_wf (fun p => wrap64_wf _) _) (by omega)
  rw [hA] at dA
  rw [hB] at dB
  have hD : Dbl (bl (tA l) N) (bl (tB l) (2 * N)) N := by
    intro p hp
    have d0 : (2 * p) / 2 = p := by omega
    have d1 : (2 * p + 1) / 2 = p := by omega
    rw [rd_bl _ hp, rd_bl _ (show 2 * p < 2 * N by omega), rd_bl _ (show 2 * p + 1 < 2 * N by omega)]
    unfold tA tB
    rw [d0, d1]
    exact ⟨rfl, rfl⟩
  have haw : stowagelaw10_awake.f (10000 + N + 1 + 1) = some true := by
    have e : 10000 + N + 1 + 1 = 40 + (9962 + N) := by omega
    rw [e]
    exact awake_mono _
  have i1 : ((specD (bl (tA l) N) N).length : Int) = ((bl (tA l) N).length : Int) := by rw [specD_len, hA]
  have i2 : (((specD (bl (tB l) (2 * N)) (2 * N)).length : Int) != ((bl (tB l) (2 * N)).length : Int)) = false := by rw [specD_len, hB]; simp
  rw [stowagelaw10_SampleTwice.j1]
  simp only [dA, dB, haw, Option.bind_some, if_true, if_pos i1, i2]
  rw [stowagelaw10_SampleTwice.j2, if_neg (by simp)]
  exact twice_l1 (N := N) hA (specD_len _ _) (specD_len _ _) (by omega) (fun p hp => by
    rw [rd_specD _ hp, rd_specD _ (show 2 * p < 2 * N by omega), rd_specD _ (show 2 * p + 1 < 2 * N by omega)]
    exact ⟨dbl_even hD hp, dbl_odd hD hp⟩) N 0 10000 (by omega)
end Go.Proofs.YtfiobfjolkmdpaaDoor.Pure
