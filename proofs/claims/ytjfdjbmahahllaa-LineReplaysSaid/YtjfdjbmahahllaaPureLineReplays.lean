/- For every list of sectors and every generation, the program's transactions are the reference's (P15.2). No condition. -/
import Derived.Test.YtjfdjbmahahllaaLinePlainD
import Derived.Test.YtjfdjbmahahllaaStLineReplays
namespace Go.Proofs.Ytjfdjbmahahllaa.Pure
open Go.RowKit Go.Proofs.Ytjfdjbmahahllaa.QLine Go.Proofs.YtjfdjbmahahllaaW.PrintWords Go.Proofs.YtjfdjbmahahllaaW.PrintLast Go.Proofs.YtjfdjbmahahllaaW.PrintMore Go.Proofs.Ytjfdjbmahahllaa.PackPlain
theorem decS_cases (b : List Int) : decS b = zero10 ∨ ∃ g s last kd a b1 c d key, decS b = (g, s, last, kd, a, b1, c, d, key, 0) ∧ encS g s last kd a b1 c d key = (b, 0) := by
  unfold decS
  split
  · unfold checkS
    split
    · rename_i h
      exact .inr ⟨_, _, _, _, _, _, _, _, _, rfl, Prod.ext h.2 h.1⟩
    · exact .inl rfl
  · exact .inl rfl
theorem encS_ok {g s : Int} {last : Bool} {kd a b c d : Int} {key : ByteArray} (h : (encS g s last kd a b c d key).2 = 0) :
    okL g s kd a b c d = true ∧ (key.size = 0 ∨ key.size = 16) ∧ encS g s last kd a b c d key = (fullS (bodyS g s last kd a b c d key), 0) := by
  unfold encS at h ⊢
  by_cases h1 : okL g s kd a b c d = true
  · rw [if_pos h1] at h ⊢
    by_cases h2 : key.size = 0 ∨ key.size = 16
    · exact ⟨h1, h2, by rw [if_pos h2]⟩
    · rw [if_neg h2] at h
      exact absurd h (by decide)
  · rw [if_neg h1] at h
    exact absurd h (by decide)
theorem full_length {g s : Int} {last : Bool} {kd a b c d : Int} {key : ByteArray} (hk : key.size = 0 ∨ key.size = 16) : (fullS (bodyS g s last kd a b c d key)).length = 64 := by
  unfold fullS
  rw [List.length_append, bodyS_length _ _ _ _ _ _ _ _ _ (by omega), be_length]
def recS (m : Int × Int × Bool × Int × Int × Int × Int × Int × ByteArray × Int) : S23 := ⟨m.2.2.2.1, m.2.2.2.2.1, m.2.2.2.2.2.1, m.2.2.2.2.2.2.1, m.2.2.2.2.2.2.2.1, m.2.2.2.2.2.2.2.2.1⟩
/-- The whole transactions, one sector behind the other. -/
def replS (gen : Int) : List (List Int) → Int → List (List S23) → List S23 → List (List S23)
  | [], _, out, _ => out
  | b :: r, i, out, now =>
    if (decS b).2.2.2.2.2.2.2.2.2 = 0 ∧ (decS b).1 = gen ∧ (decS b).2.1 = i then
      (if (decS b).2.2.1 = true then replS gen r (i + 1) (out ++ [now ++ [recS (decS b)]]) [] else replS gen r (i + 1) out (now ++ [recS (decS b)]))
    else out
theorem dec_seq {b : List Int} (h : (decS b).2.2.2.2.2.2.2.2.2 = 0) : (decS b).2.1 ≤ 2147483647 := by
  rcases decS_cases b with e | ⟨g, s, last, kd, a, b1, c, d, key, e, he⟩
  · rw [e] at h
    exact absurd h (by decide)
  · obtain ⟨hok, _, _⟩ := encS_ok (g := g) (s := s) (last := last) (kd := kd) (a := a) (b := b1) (c := c) (d := d) (key := key) (by rw [he])
    have := of_decide_eq_true hok
    rw [e]
    exact this.2.2.2.1
theorem rdL3 (l : List (List Int)) (i : Nat) (h : i < l.length) : rd_L3 l (i : Int) = l[i] := by
  unfold rd_L3
  rw [Int.toNat_natCast, List.getD_eq_getElem?_getD, List.getElem?_eq_getElem h]
  rfl
theorem drop_L3 (l : List (List Int)) (i : Nat) (h : i < l.length) : l.drop i = rd_L3 l (i : Int) :: l.drop (i + 1) := by
  rw [rdL3 l i h]
  exact List.drop_eq_getElem_cons h
theorem replj1_t (gen : Int) (out : List (List S23)) (now : List S23) (l : List (List Int)) (n : Int) (i : Int) (a0 a1 : Int) (a2 : Bool) (a3 a4 a5 a6 a7 : Int) (a8 : ByteArray) : Ev (fun k => line_Replay.j1 k gen out now l n i true a0 a1 a2 a3 a4 a5 a6 a7 a8) out :=
  Ev.step (f := fun _ => some out) (fun k => by
    simp only [line_Replay.j1]
    rw [if_pos trivial]) (Ev.now _)
theorem replj1_f (gen : Int) (out : List (List S23)) (now : List S23) (l : List (List Int)) (n : Int) (i : Int) (a0 a1 : Int) (a2 : Bool) (a3 a4 a5 a6 a7 : Int) (a8 : ByteArray) (hn : now.length < 2513169434916) (ho : out.length < 5864062014805) {R : List (List S23)}
    (ht : a2 = true → Ev (fun k => line_Replay.l0 k gen (out ++ [now ++ [(⟨a3, a4, a5, a6, a7, a8⟩ : S23)]]) [] l n (wrap64 (i + 1))) R) (hf : a2 = false → Ev (fun k => line_Replay.l0 k gen out (now ++ [(⟨a3, a4, a5, a6, a7, a8⟩ : S23)]) l n (wrap64 (i + 1))) R) : Ev (fun k => line_Replay.j1 k gen out now l n i false a0 a1 a2 a3 a4 a5 a6 a7 a8) R := by
  cases a2 with
  | true =>
    refine Ev.step (fun k => ?_) (ht rfl)
    simp only [line_Replay.j1]
    rw [if_neg (by decide), if_pos hn, Option.bind_some, if_pos trivial, if_pos ho]
  | false =>
    refine Ev.step (fun k => ?_) (hf rfl)
    simp only [line_Replay.j1]
    rw [if_neg (by decide), if_pos hn, Option.bind_some, if_neg (by decide)]
theorem repll0_ev (gen : Int) (l : List (List Int)) (hb : ∀ b ∈ l, Bytes b) : ∀ (d i : Nat) (out : List (List S23)) (now : List S23), i + d = l.length → out.length ≤ i → now.length ≤ i → i ≤ 2147483648 →
    Ev (fun k => line_Replay.l0 k gen out now l (l.length : Int) (i : Int)) (replS gen (l.drop i) (i : Int) out now) := by
  intro d
  induction d with
  | zero =>
    intro i out now hi _ _ _
    rw [List.drop_eq_nil_of_le (by omega)]
    refine Ev.step (f := fun _ => some out) (fun k => ?_) (Ev.now _)
    simp only [line_Replay.l0]
    rw [if_neg (by omega)]
  | succ d ih =>
    intro i out now hi h1 h2 h3
    have hlt : i < l.length := by omega
    have hB : Bytes (rd_L3 l (i : Int)) := by
      rw [rdL3 l i hlt]
      exact hb _ (List.getElem_mem hlt)
    rw [drop_L3 l i hlt]
    have hd := dec_ev (rd_L3 l (i : Int)) hB
    have hs := dec_seq (b := rd_L3 l (i : Int))
    unfold replS
    generalize decS (rd_L3 l (i : Int)) = m at hd hs ⊢
    obtain ⟨K, hK⟩ := hd
    have go : ∀ {R : List (List S23)}, Ev (fun k => (if m.2.2.2.2.2.2.2.2.2 = 0 then (if m.1 = gen then (line_Replay.j1 k gen out now l (l.length : Int) (i : Int) (m.2.1 != (i : Int)) m.1 m.2.1 m.2.2.1 m.2.2.2.1 m.2.2.2.2.1 m.2.2.2.2.2.1 m.2.2.2.2.2.2.1 m.2.2.2.2.2.2.2.1 m.2.2.2.2.2.2.2.2.1) else (line_Replay.j1 k gen out now l (l.length : Int) (i : Int) true m.1 m.2.1 m.2.2.1 m.2.2.2.1 m.2.2.2.2.1 m.2.2.2.2.2.1 m.2.2.2.2.2.2.1 m.2.2.2.2.2.2.2.1 m.2.2.2.2.2.2.2.2.1)) else (line_Replay.j1 k gen out now l (l.length : Int) (i : Int) true m.1 m.2.1 m.2.2.1 m.2.2.2.1 m.2.2.2.2.1 m.2.2.2.2.2.1 m.2.2.2.2.2.2.1 m.2.2.2.2.2.2.2.1 m.2.2.2.2.2.2.2.2.1))) R → Ev (fun k => line_Replay.l0 k gen out now l (l.length : Int) (i : Int)) R := by
      intro R hR
      obtain ⟨K', hK'⟩ := hR
      refine ⟨K + K' + 1, fun k hk => ?_⟩
      obtain ⟨n, rfl⟩ : ∃ n, k = n + 1 := ⟨k - 1, by omega⟩
      have n1 := hK n (by omega)
      have n2 := hK' n (by omega)
      dsimp only at n1 n2
      simp only [line_Replay.l0]
      rw [if_pos (by omega), if_pos (by omega), if_pos (by omega), n1, Option.bind_some]
      exact n2
    refine go ?_
    by_cases e0 : m.2.2.2.2.2.2.2.2.2 = 0
    · by_cases e1 : m.1 = gen
      · by_cases e2 : m.2.1 = (i : Int)
        · rw [if_pos ⟨e0, e1, e2⟩]
          have e3 : (m.2.1 != (i : Int)) = false := by rw [e2]; simp
          have e4 := hs e0
          have e5 : wrap64 ((i : Int) + 1) = ((i + 1 : Nat) : Int) := wrap64_succ i (by omega)
          refine Ev.congr (fun k => by rw [if_pos e0, if_pos e1, e3]) (replj1_f gen out now l (l.length : Int) (i : Int) m.1 m.2.1 m.2.2.1 m.2.2.2.1 m.2.2.2.2.1 m.2.2.2.2.2.1 m.2.2.2.2.2.2.1 m.2.2.2.2.2.2.2.1 m.2.2.2.2.2.2.2.2.1 (by omega) (by omega) ?_ ?_)
          · intro e
            rw [if_pos e, e5]
            have := ih (i + 1) (out ++ [now ++ [recS m]]) [] (by omega) (by simp; omega) (by simp) (by omega)
            rw [show ((i + 1 : Nat) : Int) = (i : Int) + 1 by omega] at this ⊢
            exact this
          · intro e
            rw [if_neg (by rw [e]; decide), e5]
            have := ih (i + 1) out (now ++ [recS m]) (by omega) (by omega) (by simp; omega) (by omega)
            rw [show ((i + 1 : Nat) : Int) = (i : Int) + 1 by omega] at this ⊢
            exact this
        · rw [if_neg (fun h => e2 h.2.2)]
          have e3 : (m.2.1 != (i : Int)) = true := by rw [bne_iff_ne]; exact e2
          exact Ev.congr (fun k => by rw [if_pos e0, if_pos e1, e3]) (replj1_t gen out now l (l.length : Int) (i : Int) _ _ _ _ _ _ _ _ _)
      · rw [if_neg (fun h => e1 h.2.1)]
        exact Ev.congr (fun k => by rw [if_pos e0, if_neg e1]) (replj1_t gen out now l (l.length : Int) (i : Int) _ _ _ _ _ _ _ _ _)
    · rw [if_neg (fun h => e0 h.1)]
      exact Ev.congr (fun k => by rw [if_neg e0]) (replj1_t gen out now l (l.length : Int) (i : Int) _ _ _ _ _ _ _ _ _)
theorem repl_ev (gen : Int) (l : List (List Int)) (hb : ∀ b ∈ l, Bytes b) : Ev (fun k => line_Replay.f k l gen) (replS gen l 0 [] []) := by
  have h := repll0_ev gen l hb l.length 0 [] [] (by omega) (by simp) (by simp) (by omega)
  exact h
theorem rreplj1_t (gen : Int) (out : List (List S23)) (now : List S23) (l : List (List Int)) (i : Int) (a0 a1 : Int) (a2 : Bool) (a3 a4 a5 a6 a7 : Int) (a8 : ByteArray) : Ev (fun k => stowageref15_Replay.j1 k l gen out now i true a0 a1 a2 a3 a4 a5 a6 a7 a8) out :=
  Ev.step (f := fun _ => some out) (fun k => by
    simp only [stowageref15_Replay.j1]
    rw [if_pos trivial]) (Ev.now _)
theorem rreplj1_f (gen : Int) (out : List (List S23)) (now : List S23) (l : List (List Int)) (i : Int) (a0 a1 : Int) (a2 : Bool) (a3 a4 a5 a6 a7 : Int) (a8 : ByteArray) (hn : now.length < 2513169434916) (ho : out.length < 5864062014805) {R : List (List S23)}
    (ht : a2 = true → Ev (fun k => stowageref15_Replay.l0 k l gen (out ++ [now ++ [(⟨a3, a4, a5, a6, a7, a8⟩ : S23)]]) [] (wrap64 (i + 1))) R) (hf : a2 = false → Ev (fun k => stowageref15_Replay.l0 k l gen out (now ++ [(⟨a3, a4, a5, a6, a7, a8⟩ : S23)]) (wrap64 (i + 1))) R) : Ev (fun k => stowageref15_Replay.j1 k l gen out now i false a0 a1 a2 a3 a4 a5 a6 a7 a8) R := by
  cases a2 with
  | true =>
    refine Ev.step (fun k => ?_) (ht rfl)
    simp only [stowageref15_Replay.j1]
    rw [if_neg (by decide), if_pos hn, Option.bind_some, if_pos trivial, if_pos ho]
  | false =>
    refine Ev.step (fun k => ?_) (hf rfl)
    simp only [stowageref15_Replay.j1]
    rw [if_neg (by decide), if_pos hn, Option.bind_some, if_neg (by decide)]
theorem rrepll0_ev (gen : Int) (l : List (List Int)) (hb : ∀ b ∈ l, Bytes b) : ∀ (d i : Nat) (out : List (List S23)) (now : List S23), i + d = l.length → out.length ≤ i → now.length ≤ i → i ≤ 2147483648 →
    Ev (fun k => stowageref15_Replay.l0 k l gen out now (i : Int)) (replS gen (l.drop i) (i : Int) out now) := by
  intro d
  induction d with
  | zero =>
    intro i out now hi _ _ _
    rw [List.drop_eq_nil_of_le (by omega)]
    refine Ev.step (f := fun _ => some out) (fun k => ?_) (Ev.now _)
    simp only [stowageref15_Replay.l0]
    rw [if_neg (by omega)]
  | succ d ih =>
    intro i out now hi h1 h2 h3
    have hlt : i < l.length := by omega
    have hB : Bytes (rd_L3 l (i : Int)) := by
      rw [rdL3 l i hlt]
      exact hb _ (List.getElem_mem hlt)
    rw [drop_L3 l i hlt]
    have hd := rdec_ev (rd_L3 l (i : Int)) hB
    have hs := dec_seq (b := rd_L3 l (i : Int))
    unfold replS
    generalize decS (rd_L3 l (i : Int)) = m at hd hs ⊢
    obtain ⟨K, hK⟩ := hd
    have go : ∀ {R : List (List S23)}, Ev (fun k => (if m.2.2.2.2.2.2.2.2.2 = 0 then (if m.1 = gen then (stowageref15_Replay.j1 k l gen out now (i : Int) (m.2.1 != (i : Int)) m.1 m.2.1 m.2.2.1 m.2.2.2.1 m.2.2.2.2.1 m.2.2.2.2.2.1 m.2.2.2.2.2.2.1 m.2.2.2.2.2.2.2.1 m.2.2.2.2.2.2.2.2.1) else (stowageref15_Replay.j1 k l gen out now (i : Int) true m.1 m.2.1 m.2.2.1 m.2.2.2.1 m.2.2.2.2.1 m.2.2.2.2.2.1 m.2.2.2.2.2.2.1 m.2.2.2.2.2.2.2.1 m.2.2.2.2.2.2.2.2.1)) else (stowageref15_Replay.j1 k l gen out now (i : Int) true m.1 m.2.1 m.2.2.1 m.2.2.2.1 m.2.2.2.2.1 m.2.2.2.2.2.1 m.2.2.2.2.2.2.1 m.2.2.2.2.2.2.2.1 m.2.2.2.2.2.2.2.2.1))) R → Ev (fun k => stowageref15_Replay.l0 k l gen out now (i : Int)) R := by
      intro R hR
      obtain ⟨K', hK'⟩ := hR
      refine ⟨K + K' + 1, fun k hk => ?_⟩
      obtain ⟨n, rfl⟩ : ∃ n, k = n + 1 := ⟨k - 1, by omega⟩
      have n1 := hK n (by omega)
      have n2 := hK' n (by omega)
      dsimp only at n1 n2
      simp only [stowageref15_Replay.l0]
      rw [if_pos (by omega), if_pos (by omega), n1, Option.bind_some]
      exact n2
    refine go ?_
    by_cases e0 : m.2.2.2.2.2.2.2.2.2 = 0
    · by_cases e1 : m.1 = gen
      · by_cases e2 : m.2.1 = (i : Int)
        · rw [if_pos ⟨e0, e1, e2⟩]
          have e3 : (m.2.1 != (i : Int)) = false := by rw [e2]; simp
          have e4 := hs e0
          have e5 : wrap64 ((i : Int) + 1) = ((i + 1 : Nat) : Int) := wrap64_succ i (by omega)
          refine Ev.congr (fun k => by rw [if_pos e0, if_pos e1, e3]) (rreplj1_f gen out now l (i : Int) m.1 m.2.1 m.2.2.1 m.2.2.2.1 m.2.2.2.2.1 m.2.2.2.2.2.1 m.2.2.2.2.2.2.1 m.2.2.2.2.2.2.2.1 m.2.2.2.2.2.2.2.2.1 (by omega) (by omega) ?_ ?_)
          · intro e
            rw [if_pos e, e5]
            have := ih (i + 1) (out ++ [now ++ [recS m]]) [] (by omega) (by simp; omega) (by simp) (by omega)
            rw [show ((i + 1 : Nat) : Int) = (i : Int) + 1 by omega] at this ⊢
            exact this
          · intro e
            rw [if_neg (by rw [e]; decide), e5]
            have := ih (i + 1) out (now ++ [recS m]) (by omega) (by omega) (by simp; omega) (by omega)
            rw [show ((i + 1 : Nat) : Int) = (i : Int) + 1 by omega] at this ⊢
            exact this
        · rw [if_neg (fun h => e2 h.2.2)]
          have e3 : (m.2.1 != (i : Int)) = true := by rw [bne_iff_ne]; exact e2
          exact Ev.congr (fun k => by rw [if_pos e0, if_pos e1, e3]) (rreplj1_t gen out now l (i : Int) _ _ _ _ _ _ _ _ _)
      · rw [if_neg (fun h => e1 h.2.1)]
        exact Ev.congr (fun k => by rw [if_pos e0, if_neg e1]) (rreplj1_t gen out now l (i : Int) _ _ _ _ _ _ _ _ _)
    · rw [if_neg (fun h => e0 h.1)]
      exact Ev.congr (fun k => by rw [if_neg e0]) (rreplj1_t gen out now l (i : Int) _ _ _ _ _ _ _ _ _)
theorem rrepl_ev (gen : Int) (l : List (List Int)) (hb : ∀ b ∈ l, Bytes b) : Ev (fun k => stowageref15_Replay.f k l gen) (replS gen l 0 [] []) := by
  have h := rrepll0_ev gen l hb l.length 0 [] [] (by omega) (by simp) (by simp) (by omega)
  exact h
theorem rdL6 (l : List (List S23)) (i : Nat) (h : i < l.length) : rd_L6 l (i : Int) = l[i] := by
  unfold rd_L6
  rw [Int.toNat_natCast, List.getD_eq_getElem?_getD, List.getElem?_eq_getElem h]
  rfl
theorem same_l1 (R : List (List S23)) (i : Nat) (hi : i < R.length) (hR : R.length < 9223372036854775807) (hx : ∀ x ∈ R, x.length < 9223372036854775807) (h : Ev (fun k => stowageref15_Same.l0 k R R ((i + 1 : Nat) : Int)) true) : ∀ (d j : Nat), j + d = (rd_L6 R (i : Int)).length →
    Ev (fun k => stowageref15_Same.l1 k R R (i : Int) (j : Int)) true := by
  have hlen : (rd_L6 R (i : Int)).length < 9223372036854775807 := by
    rw [rdL6 R i hi]
    exact hx _ (List.getElem_mem hi)
  intro d
  induction d with
  | zero =>
    intro j hj
    refine Ev.step (fun k => ?_) h
    simp only [stowageref15_Same.l1]
    rw [if_pos (by omega), if_pos (by omega), if_neg (by omega), wrap64_succ i (by omega)]
  | succ d ih =>
    intro j hj
    refine Ev.step (fun k => ?_) (ih (j + 1) (by omega))
    simp only [stowageref15_Same.l1]
    rw [if_pos (by omega), if_pos (by omega), if_pos (by omega), if_pos (by omega), if_pos (by omega), if_pos (by omega), if_neg (by simp), wrap64_succ j (by omega)]
theorem same_l0 (R : List (List S23)) (hR : R.length < 9223372036854775807) (hx : ∀ x ∈ R, x.length < 9223372036854775807) : ∀ (d i : Nat), i + d = R.length → Ev (fun k => stowageref15_Same.l0 k R R (i : Int)) true := by
  intro d
  induction d with
  | zero =>
    intro i hi
    refine Ev.step (f := fun _ => some true) (fun k => ?_) (Ev.now _)
    simp only [stowageref15_Same.l0]
    rw [if_neg (by omega)]
  | succ d ih =>
    intro i hi
    refine Ev.step (fun k => ?_) (same_l1 R i (by omega) hR hx (ih (i + 1) (by omega)) (rd_L6 R (i : Int)).length 0 (by omega))
    simp only [stowageref15_Same.l0]
    rw [if_pos (by omega), if_pos (by omega), if_pos (by omega), if_pos trivial]
    rfl
theorem same_ev (R : List (List S23)) (hR : R.length < 9223372036854775807) (hx : ∀ x ∈ R, x.length < 9223372036854775807) : Ev (fun k => stowageref15_Same.f k R R) true := by
  refine Ev.congr (fun k => ?_) (same_l0 R hR hx R.length 0 (by omega))
  unfold stowageref15_Same.f
  rw [if_pos rfl]
  rfl
theorem repl_bound (gen : Int) : ∀ (l : List (List Int)) (i : Int) (out : List (List S23)) (now : List S23) (n : Nat), (∀ x ∈ out, x.length ≤ n) → now.length + l.length ≤ n →
    (replS gen l i out now).length ≤ out.length + l.length ∧ ∀ x ∈ replS gen l i out now, x.length ≤ n
  | [], _, out, _, n, h, _ => ⟨by simp [replS], h⟩
  | b :: r, i, out, now, n, h, hn => by
    simp only [List.length_cons] at hn ⊢
    unfold replS
    split
    · split
      · have := repl_bound gen r (i + 1) (out ++ [now ++ [recS (decS b)]]) [] n (fun x hx => by
          rcases List.mem_append.1 hx with hx | hx
          · exact h x hx
          · simp at hx
            subst hx
            simp
            omega) (by simp; omega)
        refine ⟨?_, this.2⟩
        have h1 := this.1
        simp at h1
        omega
      · have := repl_bound gen r (i + 1) out (now ++ [recS (decS b)]) n h (by simp; omega)
        exact ⟨by omega, this.2⟩
    · exact ⟨by omega, h⟩
theorem LineReplays : StLineReplays := by
  intro l gen h _
  have hb : ∀ b ∈ l, Bytes b := fun b hbm => bytes_of_wf (h.2.2 b hbm).2.2
  have hB := repl_bound gen l 0 [] [] l.length (by simp) (by simp)
  apply Ev.rounds
  unfold stowagelaw15_LineReplays.f
  refine Ev.bind awake_ev ?_
  refine Ev.congr (fun k => by rw [if_pos rfl]) ?_
  refine Ev.bind (repl_ev gen l hb) ?_
  refine Ev.bind (rrepl_ev gen l hb) ?_
  exact Ev.bind (same_ev _ (by have := hB.1; simp at this; omega) (fun x hx => by have := hB.2 x hx; omega)) (Ev.now _)
end Go.Proofs.Ytjfdjbmahahllaa.Pure
