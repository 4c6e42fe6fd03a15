import Derived.Test.YtfiobfjolkmdpaaDoorDistPlain
import Derived.Test.YtfiobfjolkmdpaaDoorQSampx3
namespace Go.Proofs.YtfiobfjolkmdpaaDoor.Pure
open Go.RowKit Go.Proofs.YtfiobfjolkmdpaaDoor.QSamp Go.Proofs.YtfiobfjolkmdpaaDoorW.PrintWords Go.Proofs.YtfiobfjolkmdpaaDoorW.PrintLast Go.Proofs.YtfiobfjolkmdpaaDoorW.PrintMore
theorem lastOf_congr {l l' : List Int} {r r' : Int} : ∀ {i : Nat}, (∀ p : Nat, p < i → (rd l (p : Int) = r ↔ rd l' (p : Int) = r')) → lastOf l i r = lastOf l' i r'
  | 0, _ => rfl
  | i + 1, h => by
    unfold lastOf
    have hi := h i (by omega)
    by_cases he : rd l (i : Int) = r
    · rw [if_pos he, if_pos (hi.1 he)]
    · rw [if_neg he, if_neg (fun x => he (hi.2 x))]
      exact lastOf_congr (fun p hp => h p (by omega))
/-- Two lists have alike repeats ahead of n. -/
def Alike (l l' : List Int) (n : Nat) : Prop := ∀ p q : Nat, p < n → q < n → (rd l (p : Int) = rd l (q : Int) ↔ rd l' (p : Int) = rd l' (q : Int))
theorem dAt_congr {l l' : List Int} {i : Nat} (h : Alike l l' (i + 1)) : dAt l i = dAt l' i := by
  have e : lastOf l i (rd l (i : Int)) = lastOf l' i (rd l' (i : Int)) := lastOf_congr (fun p hp => h p i (by omega) (by omega))
  unfold dAt
  rw [← e]
  cases lastOf l i (rd l (i : Int)) with
  | none => rfl
  | some j =>
    dsimp only
    refine sm_ext (fun p _ hp => ?_)
    have hpi : p < i ∨ ¬ p < i := by omega
    unfold mk
    rcases hpi with hpi | hpi
    · rw [lastOf_congr (l := l) (l' := l') (r := rd l (p : Int)) (r' := rd l' (p : Int)) (i := i) (fun q hq => h q p (by omega) (by omega))]
    · rw [if_neg (fun x => hpi x.1), if_neg (fun x => hpi x.1)]
theorem specD_congr {l l' : List Int} : ∀ {i : Nat}, Alike l l' i → specD l i = specD l' i
  | 0, _ => rfl
  | i + 1, h => by
    unfold specD
    rw [specD_congr (i := i) (fun p q hp hq => h p q (by omega) (by omega)), dAt_congr h]
theorem specD_take (l : List Int) (q : Nat) : ∀ n, (specD l (q + n)).take q = specD l q
  | 0 => List.take_of_length_le (by rw [specD_len]; omega)
  | n + 1 => by
    show (specD l (q + n) ++ [dAt l (q + n)]).take q = _
    rw [List.take_append_of_le_length (by rw [specD_len]; omega)]
    exact specD_take l q n
theorem rd_take {l : List Int} {q p : Nat} (h : p < q) : rd (l.take q) (p : Int) = rd l (p : Int) := by
  unfold rd
  rw [Int.toNat_natCast, List.getD_eq_getElem?_getD, List.getD_eq_getElem?_getD, List.getElem?_take_of_lt h]
theorem rd_mapp {l : List Int} (f : Int → Int) {p : Nat} (h : p < l.length) : rd (l.map f) (p : Int) = f (rd l (p : Int)) := by
  unfold rd
  rw [Int.toNat_natCast, List.getD_eq_getElem?_getD, List.getD_eq_getElem?_getD, List.getElem?_map, List.getElem?_eq_getElem h]
  rfl
theorem rd_inn {l : List Int} {p : Nat} (h : p < l.length) : rd l (p : Int) ∈ l := by
  unfold rd
  rw [Int.toNat_natCast, List.getD_eq_getElem?_getD, List.getElem?_eq_getElem h]
  exact List.getElem_mem h
theorem ints_same (l : List Int) : ∀ (n i k : Nat), l.length = i + n → l.length < 9000000000000000000 → n < k → stowageref01_SameInts.l0 k l l (i : Int) = some true
  | 0, i, 0, _, _, hk => absurd hk (by omega)
  | 0, i, k + 1, h, _, _ => by
    rw [stowageref01_SameInts.l0, if_neg (by omega)]
  | n + 1, i, 0, _, _, hk => absurd hk (by omega)
  | n + 1, i, k + 1, h, hb, hk => by
    have e : wrap64 ((i : Int) + 1) = ((i + 1 : Nat) : Int) := by unfold wrap64; omega
    rw [stowageref01_SameInts.l0, if_pos (by omega), if_pos (by omega), if_pos (by omega), if_pos rfl, e]
    exact ints_same l n (i + 1) k (by omega) hb (by omega)
theorem ints_f (l : List Int) (hb : l.length < 9000000000000000000) {k : Nat} (hk : l.length < k) : stowageref01_SameInts.f k l l = some true := by
  unfold stowageref01_SameInts.f
  rw [if_pos rfl]
  exact ints_same l l.length 0 k (by omega) hb hk
theorem u8_range {x : Int} (h : (Lit.int .u8 x).wf = true) : 0 ≤ x ∧ x ≤ 255 := by
  simp [Lit.wf] at h
  have h1 : IntKind.u8.min = 0 := rfl
  have h2 : IntKind.u8.max = 255 := rfl
  omega
theorem u16_range {x : Int} (h : (Lit.int .u16 x).wf = true) : 0 ≤ x ∧ x ≤ 65535 := by
  simp [Lit.wf] at h
  have h1 : IntKind.u16.min = 0 := rfl
  have h2 : IntKind.u16.max = 65535 := rfl
  omega
/-- The list of what g tells at 0, 1, .. -/
def bl (g : Nat → Int) : Nat → List Int
  | 0 => []
  | i + 1 => bl g i ++ [g i]
theorem bl_len (g : Nat → Int) : ∀ i, (bl g i).length = i
  | 0 => rfl
  | i + 1 => by
    unfold bl
    rw [List.length_append, bl_len g i]
    rfl
theorem rd_bl (g : Nat → Int) : ∀ {n p : Nat}, p < n → rd (bl g n) (p : Int) = g p
  | 0, _, h => absurd h (by omega)
  | n + 1, p, h => by
    have hl := bl_len g n
    unfold rd bl
    rw [Int.toNat_natCast, List.getD_eq_getElem?_getD]
    by_cases hp : p < n
    · have := rd_bl g hp
      unfold rd at this
      rw [Int.toNat_natCast, List.getD_eq_getElem?_getD] at this
      rw [List.getElem?_append_left (by omega)]
      exact this
    · have e : p = (bl g n).length := by omega
      rw [e, List.getElem?_append_right (Nat.le_refl _), Nat.sub_self, hl]
      rfl
theorem bl_wf {g : Nat → Int} (hg : ∀ p, (Lit.int .i64 (g p)).wf = true) : ∀ n, ∀ x ∈ bl g n, (Lit.int .i64 x).wf = true
  | 0, x, h => by simp [bl] at h
  | n + 1, x, h => by
    unfold bl at h
    rcases List.mem_append.1 h with h | h
    · exact bl_wf hg n x h
    · rw [List.mem_singleton.1 h]
      exact hg n
theorem awake_ev : stowagelaw10_awake.f 40 = some true := by decide +kernel
theorem awake_mono (k : Nat) : stowagelaw10_awake.f (40 + k) = some true := by
  induction k with
  | zero => exact awake_ev
  | succ k ih => exact stowagelaw10_awake.mono (40 + k) _ ih
theorem sub_key : ∀ P Q : Int, P - 9223372036854775808 = Q - 9223372036854775808 → P = Q := fun P Q h => by omega
theorem small_dvd (z : Int) (h0 : -765 ≤ z) (h1 : z ≤ 765) (q : Int) (h : z = 18446744073709551616 * q) : z = 0 := by omega
theorem diff_q (P Q r : Int) (hp : P % 18446744073709551616 = r) (hq : Q % 18446744073709551616 = r) : ∃ q, P - Q = 18446744073709551616 * q :=
  ⟨P / 18446744073709551616 - Q / 18446744073709551616, by
    have h1 := Int.emod_add_mul_ediv P 18446744073709551616
    have h2 := Int.emod_add_mul_ediv Q 18446744073709551616
    rw [hp] at h1
    rw [hq] at h2
    rw [Int.mul_sub]
    generalize 18446744073709551616 * (P / 18446744073709551616) = A at *
    generalize 18446744073709551616 * (Q / 18446744073709551616) = B at *
    omega⟩
theorem inj3 (a x y : Int) (hx : 0 ≤ x ∧ x ≤ 255) (hy : 0 ≤ y ∧ y ≤ 255) (e : wrap64 (a - 3 * x) = wrap64 (a - 3 * y)) : x = y := by
  have hw : ∀ z, wrap64 z = (z + 9223372036854775808) % 18446744073709551616 - 9223372036854775808 := fun z => by unfold wrap64; rfl
  rw [hw, hw] at e
  have e1 : (a - 3 * x + 9223372036854775808) % 18446744073709551616 = (a - 3 * y + 9223372036854775808) % 18446744073709551616 := sub_key _ _ e
  obtain ⟨q, hq⟩ := diff_q _ _ _ e1 rfl
  clear e e1
  have hz : (a - 3 * x + 9223372036854775808) - (a - 3 * y + 9223372036854775808) = 3 * (y - x) := by clear hq; omega
  rw [hz] at hq
  have h0 := small_dvd _ (by clear hq; omega) (by clear hq; omega) q hq
  clear hq hz
  omega
def gA (l : List Int) (p : Nat) : Int := wrap64 (rd l (p : Int))
def gB (l : List Int) (a : Int) (p : Nat) : Int := wrap64 (a - (wrap64 (3 * (wrap64 (rd l (p : Int))))))
theorem names_l0 {l : List Int} {a1 a2 : Int} {N : Nat} (h1 : N ≤ l.length) (h2 : N ≤ 1000) (h3 : N = l.length ∨ N = 1000) : ∀ (n i k : Nat), N = i + n →
    stowagelaw10_SampleNames.l0 (k + n + 1) l a1 a2 (bl (gA l) i) (bl (gB l a1) i) (i : Int) = stowagelaw10_SampleNames.j1 k a2 (bl (gA l) N) (bl (gB l a1) N)
  | 0, i, k, hn => by
    have e : N = i := by omega
    subst e
    rw [Nat.add_zero, stowagelaw10_SampleNames.l0]
    by_cases hl : (N : Int) < (l.length : Int)
    · rw [if_pos hl, if_neg (by omega)]
    · rw [if_neg hl]
  | n + 1, i, k, hn => by
    have ek : k + (n + 1) + 1 = (k + n + 1) + 1 := by omega
    have e : wrap64 ((i : Int) + 1) = ((i + 1 : Nat) : Int) := by unfold wrap64; omega
    have la := bl_len (gA l) i
    have lb' := bl_len (gB l a1) i
    have i1 : (i : Int) < (l.length : Int) := by omega
    have i2 : (i : Int) < 1000 := by omega
    have i3 : 0 ≤ (i : Int) := by omega
    have i4 : (bl (gA l) i).length < 17592186044416 := by omega
    have i5 : (bl (gB l a1) i).length < 17592186044416 := by omega
    rw [ek, stowagelaw10_SampleNames.l0, if_pos i1, if_pos i2, if_pos i3, if_pos i4, if_pos i5, e]
    exact names_l0 h1 h2 h3 n (i + 1) k (by omega)
theorem names_alike {l : List Int} {a1 : Int} {N : Nat} (h1 : N ≤ l.length) (hw : ∀ x ∈ l, (Lit.int .u8 x).wf = true) : Alike (bl (gA l) N) (bl (gB l a1) N) N := by
  intro p q hp hq
  rw [rd_bl _ hp, rd_bl _ hq, rd_bl _ hp, rd_bl _ hq]
  have rp := u8_range (hw _ (rd_inn (l := l) (p := p) (by omega)))
  have rq := u8_range (hw _ (rd_inn (l := l) (p := q) (by omega)))
  unfold gA gB
  generalize rd l (p : Int) = x at *
  generalize rd l (q : Int) = y at *
  have e1 : wrap64 x = x := by unfold wrap64; omega
  have e2 : wrap64 y = y := by unfold wrap64; omega
  have e3 : wrap64 (3 * x) = 3 * x := by unfold wrap64; omega
  have e4 : wrap64 (3 * y) = 3 * y := by unfold wrap64; omega
  rw [e1, e2, e3, e4]
  constructor
  · intro e
    rw [e]
  · intro e
    exact inj3 a1 x y rp rq e
theorem names_j1 {A B : List Int} {N : Nat} {a2 : Int} {k : Nat} (hA : A.length = N) (hB : B.length = N) (hN : N ≤ 1000) (h2 : 0 ≤ a2 ∧ a2 ≤ 65535) (hal : Alike A B N) (wA : ∀ x ∈ A, (Lit.int .i64 x).wf = true) (wB : ∀ x ∈ B, (Lit.int .i64 x).wf = true)
    (hk : 10000 ≤ k) : stowagelaw10_SampleNames.j1 (k + 1) a2 A B = some true := by
  have dA := dist_ev (by omega) wA hk
  have dB := dist_ev (by omega) wB hk
  rw [hA] at dA
  rw [hB, ← specD_congr hal] at dB
  have e1 : wrap64 a2 = a2 := by unfold wrap64; omega
  have e2 : wrap64 ((A.length : Int) + 1) = (N : Int) + 1 := by unfold wrap64; omega
  have e3 : Int.tmod a2 ((N : Int) + 1) = a2 % ((N : Int) + 1) := Int.tmod_eq_emod_of_nonneg h2.1
  have m1 := Int.emod_nonneg a2 (show (N : Int) + 1 ≠ 0 by omega)
  have m2 := Int.emod_lt_of_pos a2 (show 0 < (N : Int) + 1 by omega)
  obtain ⟨q, hq⟩ : ∃ q : Nat, a2 % ((N : Int) + 1) = (q : Int) := ⟨(a2 % ((N : Int) + 1)).toNat, by omega⟩
  have hqN : q ≤ N := by omega
  have dT := dist_ev (l := A.take q) (k := k) (by rw [List.length_take]; omega) (fun x hx => wA x (List.mem_of_mem_take hx)) hk
  have lt : (A.take q).length = q := by rw [List.length_take]; omega
  have hTA : specD (A.take q) q = specD A q := specD_congr (fun p r hp hr => by rw [rd_take hp, rd_take hr])
  have hTD : (specD A N).take q = specD A q := by
    obtain ⟨n, rfl⟩ : ∃ n, N = q + n := ⟨N - q, by omega⟩
    exact specD_take A q n
  rw [lt, hTA] at dT
  have haw : stowagelaw10_awake.f k = some true := by
    obtain ⟨r, rfl⟩ : ∃ r, k = 40 + r := ⟨k - 40, by omega⟩
    exact awake_mono r
  have s1 := ints_f (specD A N) (by rw [specD_len]; omega) (k := k) (by rw [specD_len]; omega)
  have s2 := ints_f (specD A q) (by rw [specD_len]; omega) (k := k) (by rw [specD_len]; omega)
  have i1 : ¬ ((N : Int) + 1 = 0) := by omega
  have i2 : 0 ≤ (q : Int) := by omega
  have i3 : (q : Int) ≤ (A.length : Int) := by omega
  have i4 : ((specD A N).length : Int) = (A.length : Int) := by rw [specD_len, hA]
  have i5 : (q : Int) ≤ ((specD A N).length : Int) := by rw [specD_len]; omega
  rw [stowagelaw10_SampleNames.j1]
  simp only [dA, dB, Option.bind_some, e1, e2, e3, hq, if_neg i1, if_pos i2, if_pos i3, Int.toNat_natCast, dT, haw, if_true, if_pos i4, s1, if_pos i5, hTD, s2]
theorem SampleNames : stowagelaw10_SampleNames.Pure := by
  intro l a1 a2 _ _ hw _ hw2
  obtain ⟨N, hN⟩ : ∃ N, N = min l.length 1000 := ⟨_, rfl⟩
  refine ⟨10001 + N + 1, ?_⟩
  unfold stowagelaw10_SampleNames.f
  have := names_l0 (l := l) (a1 := a1) (a2 := a2) (N := N) (by omega) (by omega) (by omega) N 0 10001 (by omega)
  refine this.trans ?_
  exact names_j1 (N := N) (bl_len _ _) (bl_len _ _) (by omega) (u16_range hw2) (names_alike (by omega) hw) (bl_wf (fun p => wrap64_wf _) _) (bl_wf (fun p => wrap64_wf _) _) (Nat.le_refl _)
end Go.Proofs.YtfiobfjolkmdpaaDoor.Pure
