/- For every list of transactions, generation and cut: what was written is replayed, and of what is cut off the whole transactions are (P15.1, P15.2). No condition. -/
import Derived.Test.YtjfdjbmahahllaaLinePlain
import Derived.Test.YtjfdjbmahahllaaStLineCuts
namespace Go.Proofs.Ytjfdjbmahahllaa.Pure
open Go.RowKit Go.Proofs.Ytjfdjbmahahllaa.QLine Go.Proofs.YtjfdjbmahahllaaW.PrintWords Go.Proofs.YtjfdjbmahahllaaW.PrintLast Go.Proofs.YtjfdjbmahahllaaW.PrintMore Go.Proofs.Ytjfdjbmahahllaa.PackPlain
theorem decS_cases (b : List Int) : decS b = zero10 ∨ ∃ g s last kd a b1 c d key, decS b = (g, s, last, kd, a, b1, c, d, key, 0) ∧ encS g s last kd a b1 c d key = (b, 0) := by
  unfold decS
  split
  · unfold checkS
    split
    · rename_i h
      exact .inr ⟨_, _, _, _, _, _, _, _, _, rfl, Prod.ext h.2 h.1⟩
    · exact .inl rfl
  · exact .inl rfl
theorem encS_ok {g s : Int} {last : Bool} {kd a b c d : Int} {key : ByteArray} (h : (encS g s last kd a b c d key).2 = 0) :
    okL g s kd a b c d = true ∧ (key.size = 0 ∨ key.size = 16) ∧ encS g s last kd a b c d key = (fullS (bodyS g s last kd a b c d key), 0) := by
  unfold encS at h ⊢
  by_cases h1 : okL g s kd a b c d = true
  · rw [if_pos h1] at h ⊢
    by_cases h2 : key.size = 0 ∨ key.size = 16
    · exact ⟨h1, h2, by rw [if_pos h2]⟩
    · rw [if_neg h2] at h
      exact absurd h (by decide)
  · rw [if_neg h1] at h
    exact absurd h (by decide)
theorem full_length {g s : Int} {last : Bool} {kd a b c d : Int} {key : ByteArray} (hk : key.size = 0 ∨ key.size = 16) : (fullS (bodyS g s last kd a b c d key)).length = 64 := by
  unfold fullS
  rw [List.length_append, bodyS_length _ _ _ _ _ _ _ _ _ (by omega), be_length]
def recS (m : Int × Int × Bool × Int × Int × Int × Int × Int × ByteArray × Int) : S23 := ⟨m.2.2.2.1, m.2.2.2.2.1, m.2.2.2.2.2.1, m.2.2.2.2.2.2.1, m.2.2.2.2.2.2.2.1, m.2.2.2.2.2.2.2.2.1⟩
def replS (gen : Int) : List (List Int) → Int → List (List S23) → List S23 → List (List S23)
  | [], _, out, _ => out
  | b :: r, i, out, now =>
    if (decS b).2.2.2.2.2.2.2.2.2 = 0 ∧ (decS b).1 = gen ∧ (decS b).2.1 = i then
      (if (decS b).2.2.1 = true then replS gen r (i + 1) (out ++ [now ++ [recS (decS b)]]) [] else replS gen r (i + 1) out (now ++ [recS (decS b)]))
    else out
theorem dec_seq {b : List Int} (h : (decS b).2.2.2.2.2.2.2.2.2 = 0) : (decS b).2.1 ≤ 2147483647 := by
  rcases decS_cases b with e | ⟨g, s, last, kd, a, b1, c, d, key, e, he⟩
  · rw [e] at h
    exact absurd h (by decide)
  · obtain ⟨hok, _, _⟩ := encS_ok (g := g) (s := s) (last := last) (kd := kd) (a := a) (b := b1) (c := c) (d := d) (key := key) (by rw [he])
    have := of_decide_eq_true hok
    rw [e]
    exact this.2.2.2.1
theorem rdL3 (l : List (List Int)) (i : Nat) (h : i < l.length) : rd_L3 l (i : Int) = l[i] := by
  unfold rd_L3
  rw [Int.toNat_natCast, List.getD_eq_getElem?_getD, List.getElem?_eq_getElem h]
  rfl
theorem drop_L3 (l : List (List Int)) (i : Nat) (h : i < l.length) : l.drop i = rd_L3 l (i : Int) :: l.drop (i + 1) := by
  rw [rdL3 l i h]
  exact List.drop_eq_getElem_cons h
theorem replj1_t (gen : Int) (out : List (List S23)) (now : List S23) (l : List (List Int)) (n : Int) (i : Int) (a0 a1 : Int) (a2 : Bool) (a3 a4 a5 a6 a7 : Int) (a8 : ByteArray) : Ev (fun k => line_Replay.j1 k gen out now l n i true a0 a1 a2 a3 a4 a5 a6 a7 a8) out :=
  Ev.step (f := fun _ => some out) (fun k => by
    simp only [line_Replay.j1]
    rw [if_pos trivial]) (Ev.now _)
theorem replj1_f (gen : Int) (out : List (List S23)) (now : List S23) (l : List (List Int)) (n : Int) (i : Int) (a0 a1 : Int) (a2 : Bool) (a3 a4 a5 a6 a7 : Int) (a8 : ByteArray) (hn : now.length < 2513169434916) (ho : out.length < 5864062014805) {R : List (List S23)}
    (ht : a2 = true → Ev (fun k => line_Replay.l0 k gen (out ++ [now ++ [(⟨a3, a4, a5, a6, a7, a8⟩ : S23)]]) [] l n (wrap64 (i + 1))) R) (hf : a2 = false → Ev (fun k => line_Replay.l0 k gen out (now ++ [(⟨a3, a4, a5, a6, a7, a8⟩ : S23)]) l n (wrap64 (i + 1))) R) : Ev (fun k => line_Replay.j1 k gen out now l n i false a0 a1 a2 a3 a4 a5 a6 a7 a8) R := by
  cases a2 with
  | true =>
    refine Ev.step (fun k => ?_) (ht rfl)
    simp only [line_Replay.j1]
    rw [if_neg (by decide), if_pos hn, Option.bind_some, if_pos trivial, if_pos ho]
  | false =>
    refine Ev.step (fun k => ?_) (hf rfl)
    simp only [line_Replay.j1]
    rw [if_neg (by decide), if_pos hn, Option.bind_some, if_neg (by decide)]
theorem repll0_ev (gen : Int) (l : List (List Int)) (hb : ∀ b ∈ l, Bytes b) : ∀ (d i : Nat) (out : List (List S23)) (now : List S23), i + d = l.length → out.length ≤ i → now.length ≤ i → i ≤ 2147483648 →
    Ev (fun k => line_Replay.l0 k gen out now l (l.length : Int) (i : Int)) (replS gen (l.drop i) (i : Int) out now) := by
  intro d
  induction d with
  | zero =>
    intro i out now hi _ _ _
    rw [List.drop_eq_nil_of_le (by omega)]
    refine Ev.step (f := fun _ => some out) (fun k => ?_) (Ev.now _)
    simp only [line_Replay.l0]
    rw [if_neg (by omega)]
  | succ d ih =>
    intro i out now hi h1 h2 h3
    have hlt : i < l.length := by omega
    have hB : Bytes (rd_L3 l (i : Int)) := by
      rw [rdL3 l i hlt]
      exact hb _ (List.getElem_mem hlt)
    rw [drop_L3 l i hlt]
    have hd := dec_ev (rd_L3 l (i : Int)) hB
    have hs := dec_seq (b := rd_L3 l (i : Int))
    unfold replS
    generalize decS (rd_L3 l (i : Int)) = m at hd hs ⊢
    obtain ⟨K, hK⟩ := hd
    have go : ∀ {R : List (List S23)}, Ev (fun k => (if m.2.2.2.2.2.2.2.2.2 = 0 then (if m.1 = gen then (line_Replay.j1 k gen out now l (l.length : Int) (i : Int) (m.2.1 != (i : Int)) m.1 m.2.1 m.2.2.1 m.2.2.2.1 m.2.2.2.2.1 m.2.2.2.2.2.1 m.2.2.2.2.2.2.1 m.2.2.2.2.2.2.2.1 m.2.2.2.2.2.2.2.2.1) else (line_Replay.j1 k gen out now l (l.length : Int) (i : Int) true m.1 m.2.1 m.2.2.1 m.2.2.2.1 m.2.2.2.2.1 m.2.2.2.2.2.1 m.2.2.2.2.2.2.1 m.2.2.2.2.2.2.2.1 m.2.2.2.2.2.2.2.2.1)) else (line_Replay.j1 k gen out now l (l.length : Int) (i : Int) true m.1 m.2.1 m.2.2.1 m.2.2.2.1 m.2.2.2.2.1 m.2.2.2.2.2.1 m.2.2.2.2.2.2.1 m.2.2.2.2.2.2.2.1 m.2.2.2.2.2.2.2.2.1))) R → Ev (fun k => line_Replay.l0 k gen out now l (l.length : Int) (i : Int)) R := by
      intro R hR
      obtain ⟨K', hK'⟩ := hR
      refine ⟨K + K' + 1, fun k hk => ?_⟩
      obtain ⟨n, rfl⟩ : ∃ n, k = n + 1 := ⟨k - 1, by omega⟩
      have n1 := hK n (by omega)
      have n2 := hK' n (by omega)
      dsimp only at n1 n2
      simp only [line_Replay.l0]
      rw [if_pos (by omega), if_pos (by omega), if_pos (by omega), n1, Option.bind_some]
      exact n2
    refine go ?_
    by_cases e0 : m.2.2.2.2.2.2.2.2.2 = 0
    · by_cases e1 : m.1 = gen
      · by_cases e2 : m.2.1 = (i : Int)
        · rw [if_pos ⟨e0, e1, e2⟩]
          have e3 : (m.2.1 != (i : Int)) = false := by rw [e2]; simp
          have e4 := hs e0
          have e5 : wrap64 ((i : Int) + 1) = ((i + 1 : Nat) : Int) := wrap64_succ i (by omega)
          refine Ev.congr (fun k => by rw [if_pos e0, if_pos e1, e3]) (replj1_f gen out now l (l.length : Int) (i : Int) m.1 m.2.1 m.2.2.1 m.2.2.2.1 m.2.2.2.2.1 m.2.2.2.2.2.1 m.2.2.2.2.2.2.1 m.2.2.2.2.2.2.2.1 m.2.2.2.2.2.2.2.2.1 (by omega) (by omega) ?_ ?_)
          · intro e
            rw [if_pos e, e5]
            have := ih (i + 1) (out ++ [now ++ [recS m]]) [] (by omega) (by simp; omega) (by simp) (by omega)
            rw [show ((i + 1 : Nat) : Int) = (i : Int) + 1 by omega] at this ⊢
            exact this
          · intro e
            rw [if_neg (by rw [e]; decide), e5]
            have := ih (i + 1) out (now ++ [recS m]) (by omega) (by omega) (by simp; omega) (by omega)
            rw [show ((i + 1 : Nat) : Int) = (i : Int) + 1 by omega] at this ⊢
            exact this
        · rw [if_neg (fun h => e2 h.2.2)]
          have e3 : (m.2.1 != (i : Int)) = true := by rw [bne_iff_ne]; exact e2
          exact Ev.congr (fun k => by rw [if_pos e0, if_pos e1, e3]) (replj1_t gen out now l (l.length : Int) (i : Int) _ _ _ _ _ _ _ _ _)
      · rw [if_neg (fun h => e1 h.2.1)]
        exact Ev.congr (fun k => by rw [if_pos e0, if_neg e1]) (replj1_t gen out now l (l.length : Int) (i : Int) _ _ _ _ _ _ _ _ _)
    · rw [if_neg (fun h => e0 h.1)]
      exact Ev.congr (fun k => by rw [if_neg e0]) (replj1_t gen out now l (l.length : Int) (i : Int) _ _ _ _ _ _ _ _ _)
theorem repl_ev (gen : Int) (l : List (List Int)) (hb : ∀ b ∈ l, Bytes b) : Ev (fun k => line_Replay.f k l gen) (replS gen l 0 [] []) := by
  have h := repll0_ev gen l hb l.length 0 [] [] (by omega) (by simp) (by simp) (by omega)
  exact h
theorem rdL6 (l : List (List S23)) (i : Nat) (h : i < l.length) : rd_L6 l (i : Int) = l[i] := by
  unfold rd_L6
  rw [Int.toNat_natCast, List.getD_eq_getElem?_getD, List.getElem?_eq_getElem h]
  rfl
theorem same_l1 (R : List (List S23)) (i : Nat) (hi : i < R.length) (hR : R.length < 9223372036854775807) (hx : ∀ x ∈ R, x.length < 9223372036854775807) (h : Ev (fun k => stowageref15_Same.l0 k R R ((i + 1 : Nat) : Int)) true) : ∀ (d j : Nat), j + d = (rd_L6 R (i : Int)).length →
    Ev (fun k => stowageref15_Same.l1 k R R (i : Int) (j : Int)) true := by
  have hlen : (rd_L6 R (i : Int)).length < 9223372036854775807 := by
    rw [rdL6 R i hi]
    exact hx _ (List.getElem_mem hi)
  intro d
  induction d with
  | zero =>
    intro j hj
    refine Ev.step (fun k => ?_) h
    simp only [stowageref15_Same.l1]
    rw [if_pos (by omega), if_pos (by omega), if_neg (by omega), wrap64_succ i (by omega)]
  | succ d ih =>
    intro j hj
    refine Ev.step (fun k => ?_) (ih (j + 1) (by omega))
    simp only [stowageref15_Same.l1]
    rw [if_pos (by omega), if_pos (by omega), if_pos (by omega), if_pos (by omega), if_pos (by omega), if_pos (by omega), if_neg (by simp), wrap64_succ j (by omega)]
theorem same_l0 (R : List (List S23)) (hR : R.length < 9223372036854775807) (hx : ∀ x ∈ R, x.length < 9223372036854775807) : ∀ (d i : Nat), i + d = R.length → Ev (fun k => stowageref15_Same.l0 k R R (i : Int)) true := by
  intro d
  induction d with
  | zero =>
    intro i hi
    refine Ev.step (f := fun _ => some true) (fun k => ?_) (Ev.now _)
    simp only [stowageref15_Same.l0]
    rw [if_neg (by omega)]
  | succ d ih =>
    intro i hi
    refine Ev.step (fun k => ?_) (same_l1 R i (by omega) hR hx (ih (i + 1) (by omega)) (rd_L6 R (i : Int)).length 0 (by omega))
    simp only [stowageref15_Same.l0]
    rw [if_pos (by omega), if_pos (by omega), if_pos (by omega), if_pos trivial]
    rfl
theorem same_ev (R : List (List S23)) (hR : R.length < 9223372036854775807) (hx : ∀ x ∈ R, x.length < 9223372036854775807) : Ev (fun k => stowageref15_Same.f k R R) true := by
  refine Ev.congr (fun k => ?_) (same_l0 R hR hx R.length 0 (by omega))
  unfold stowageref15_Same.f
  rw [if_pos rfl]
  rfl
def encB (gen : Int) (q : Nat) (last : Bool) (r : S23) : List Int := fullS (bodyS gen (q : Int) last r.f0 r.f1 r.f2 r.f3 r.f4 r.f5)
def okR (gen : Int) (q : Nat) (r : S23) : Prop := okL gen (q : Int) r.f0 r.f1 r.f2 r.f3 r.f4 = true ∧ (r.f5.size = 0 ∨ r.f5.size = 16)
/-- A transaction's sectors, the first one of number q. -/
def tx (gen : Int) : Nat → List S23 → List (List Int)
  | _, [] => []
  | q, r :: rs => encB gen q rs.isEmpty r :: tx gen (q + 1) rs
def okT (gen : Int) : Nat → List S23 → Prop
  | _, [] => True
  | q, r :: rs => okR gen q r ∧ okT gen (q + 1) rs
def allS (gen : Int) : Nat → List (List S23) → List (List Int)
  | _, [] => []
  | q, w :: ws => tx gen q w ++ allS gen (q + w.length) ws
def okA (gen : Int) : Nat → List (List S23) → Prop
  | _, [] => True
  | q, w :: ws => okT gen q w ∧ okA gen (q + w.length) ws
def endsOf : Nat → List (List S23) → List Int
  | _, [] => []
  | q, w :: ws => ((q + w.length : Nat) : Int) :: endsOf (q + w.length) ws
def cnt : Nat → List (List S23) → Nat
  | _, [] => 0
  | n, w :: ws => if w.length ≤ n then cnt (n - w.length) ws + 1 else 0
theorem tx_length (gen : Int) : ∀ (rs : List S23) (q : Nat), (tx gen q rs).length = rs.length
  | [], _ => rfl
  | r :: rs, q => by simp [tx, tx_length gen rs (q + 1)]
theorem tx_get (gen : Int) : ∀ (W : List S23) (q j : Nat) (h : j < W.length), (tx gen q W)[j]? = some (encB gen (q + j) (decide (j + 1 = W.length)) W[j])
  | r :: rs, q, 0, _ => by
    cases rs <;> simp [tx]
  | r :: rs, q, j + 1, h => by
    have := tx_get gen rs (q + 1) j (by simpa using h)
    simp only [tx, List.getElem?_cons_succ, List.getElem_cons_succ, List.length_cons, Nat.add_right_cancel_iff]
    rw [this, show q + 1 + j = q + (j + 1) by omega]
theorem tx_take (gen : Int) (W : List S23) (q j : Nat) (h : j < W.length) : (tx gen q W).take (j + 1) = (tx gen q W).take j ++ [encB gen (q + j) (decide (j + 1 = W.length)) W[j]] := by
  rw [List.take_add_one, tx_get gen W q j h]
  rfl
theorem okT_snoc (gen : Int) : ∀ (l : List S23) (q : Nat) (r : S23), okT gen q l → okR gen (q + l.length) r → okT gen q (l ++ [r])
  | [], _, _, _, h => ⟨h, trivial⟩
  | a :: l, q, r, h, hr => ⟨h.1, okT_snoc gen l (q + 1) r h.2 (by rw [show q + 1 + l.length = q + (a :: l).length by simp; omega]; exact hr)⟩
theorem okT_len (gen : Int) : ∀ (l : List S23) (q : Nat), okT gen q l → l = [] ∨ q + l.length ≤ 2147483648
  | [], _, _ => .inl rfl
  | a :: l, q, h => .inr (by
    have h1 := of_decide_eq_true h.1.1
    rcases okT_len gen l (q + 1) h.2 with rfl | h2
    · simp
      omega
    · simp
      omega)
theorem allS_length (gen : Int) : ∀ (ws : List (List S23)) (q : Nat), okA gen q ws → (allS gen q ws).length = 0 ∨ q + (allS gen q ws).length ≤ 2147483648
  | [], _, _ => .inl rfl
  | w :: ws, q, h => by
    have h1 := okT_len gen w q h.1
    have h2 := allS_length gen ws (q + w.length) h.2
    simp only [allS, List.length_append, tx_length]
    rcases h1 with rfl | h1
    · simpa using h2
    · right
      omega
theorem allS_snoc (gen : Int) : ∀ (ws : List (List S23)) (q : Nat) (w : List S23), allS gen q (ws ++ [w]) = allS gen q ws ++ tx gen (q + (allS gen q ws).length) w
  | [], q, w => by simp [allS]
  | a :: ws, q, w => by
    simp only [List.cons_append, allS, allS_snoc gen ws (q + a.length) w, List.append_assoc, List.length_append, tx_length, Nat.add_assoc]
theorem okA_snoc (gen : Int) : ∀ (ws : List (List S23)) (q : Nat) (w : List S23), okA gen q ws → okT gen (q + (allS gen q ws).length) w → okA gen q (ws ++ [w])
  | [], q, w, _, h => ⟨by simpa [allS] using h, trivial⟩
  | a :: ws, q, w, h, hw => ⟨h.1, okA_snoc gen ws (q + a.length) w h.2 (by
    simp only [allS, List.length_append, tx_length] at hw
    rw [Nat.add_assoc]
    exact hw)⟩
theorem endsOf_snoc (gen : Int) : ∀ (ws : List (List S23)) (q : Nat) (w : List S23), endsOf q (ws ++ [w]) = endsOf q ws ++ [((q + (allS gen q ws).length + w.length : Nat) : Int)]
  | [], q, w => by simp [endsOf, allS]
  | a :: ws, q, w => by
    simp only [List.cons_append, endsOf, endsOf_snoc gen ws (q + a.length) w, allS, List.length_append, tx_length]
    rw [show q + a.length + (allS gen (q + a.length) ws).length + w.length = q + (a.length + (allS gen (q + a.length) ws).length) + w.length by omega]
theorem endsOf_length : ∀ (ws : List (List S23)) (q : Nat), (endsOf q ws).length = ws.length
  | [], _ => rfl
  | w :: ws, q => by simp [endsOf, endsOf_length ws]
theorem few (gen : Int) : ∀ (ws : List (List S23)) (q : Nat), (∀ w ∈ ws, w ≠ []) → ws.length ≤ (allS gen q ws).length
  | [], _, _ => by simp
  | w :: ws, q, h => by
    have h1 := few gen ws (q + w.length) (fun x hx => h x (List.mem_cons_of_mem _ hx))
    have h2 : w ≠ [] := h w List.mem_cons_self
    have h3 := List.length_pos_iff.2 h2
    simp only [allS, List.length_append, tx_length, List.length_cons]
    omega
theorem encB_bytes (gen : Int) (q : Nat) (last : Bool) (r : S23) : Bytes (encB gen q last r) := fullS_bytes (bodyS_bytes _ _ _ _ _ _ _ _ _)
theorem tx_bytes (gen : Int) : ∀ (rs : List S23) (q : Nat), ∀ b ∈ tx gen q rs, Bytes b
  | [], _, b, h => by simp [tx] at h
  | r :: rs, q, b, h => by
    simp only [tx, List.mem_cons] at h
    rcases h with rfl | h
    · exact encB_bytes _ _ _ _
    · exact tx_bytes gen rs (q + 1) b h
theorem allS_bytes (gen : Int) : ∀ (ws : List (List S23)) (q : Nat), ∀ b ∈ allS gen q ws, Bytes b
  | [], _, b, h => by simp [allS] at h
  | w :: ws, q, b, h => by
    simp only [allS, List.mem_append] at h
    rcases h with h | h
    · exact tx_bytes gen w q b h
    · exact allS_bytes gen ws _ b h
theorem dec_encB {gen : Int} {q : Nat} {r : S23} (last : Bool) (h : okR gen q r) : decS (encB gen q last r) = (gen, (q : Int), last, r.f0, r.f1, r.f2, r.f3, r.f4, r.f5, 0) := dec_of_enc gen (q : Int) last r.f0 r.f1 r.f2 r.f3 r.f4 r.f5 h.1 h.2
theorem repl_one {gen : Int} {q : Nat} {r : S23} (last : Bool) (h : okR gen q r) (rest : List (List Int)) (out : List (List S23)) (now : List S23) :
    replS gen (encB gen q last r :: rest) (q : Int) out now = if last = true then replS gen rest ((q + 1 : Nat) : Int) (out ++ [now ++ [r]]) [] else replS gen rest ((q + 1 : Nat) : Int) out (now ++ [r]) := by
  rw [replS, dec_encB last h]
  dsimp only [recS]
  rw [if_pos ⟨rfl, rfl, rfl⟩]
  rfl
theorem repl_tx (gen : Int) : ∀ (rs : List S23) (q : Nat) (out : List (List S23)) (now : List S23) (rest : List (List Int)), rs ≠ [] → okT gen q rs →
    replS gen (tx gen q rs ++ rest) (q : Int) out now = replS gen rest ((q + rs.length : Nat) : Int) (out ++ [now ++ rs]) []
  | [], _, _, _, _, h, _ => absurd rfl h
  | [r], q, out, now, rest, _, h => by
    simp only [tx, List.isEmpty_nil, List.cons_append, List.nil_append]
    rw [repl_one true h.1, if_pos rfl]
    rfl
  | r :: r' :: rs, q, out, now, rest, _, h => by
    have ih := repl_tx gen (r' :: rs) (q + 1) out (now ++ [r]) rest (by simp) h.2
    rw [tx, List.cons_append, repl_one _ h.1, if_neg (by simp), ih]
    rw [show q + 1 + (r' :: rs).length = q + (r :: r' :: rs).length by simp; omega, List.append_assoc]
    rfl
theorem repl_part (gen : Int) : ∀ (rs : List S23) (q m : Nat) (out : List (List S23)) (now : List S23), m < rs.length → okT gen q rs → replS gen ((tx gen q rs).take m) (q : Int) out now = out
  | _, _, 0, _, _, _, _ => by simp [replS]
  | [], _, m + 1, _, _, h, _ => by simp at h
  | [r], _, m + 1, _, _, h, _ => by simp at h
  | r :: r' :: rs, q, m + 1, out, now, h, hk => by
    have ih := repl_part gen (r' :: rs) (q + 1) m out (now ++ [r]) (by simpa using h) hk.2
    rw [tx, List.take_succ_cons, repl_one _ hk.1, if_neg (by simp), ih]
theorem repl_take (gen : Int) : ∀ (ws : List (List S23)) (q n : Nat) (out : List (List S23)), (∀ w ∈ ws, w ≠ []) → okA gen q ws → replS gen ((allS gen q ws).take n) (q : Int) out [] = out ++ ws.take (cnt n ws)
  | [], _, _, out, _, _ => by simp [allS, replS]
  | w :: ws, q, n, out, hw, hk => by
    have hne : w ≠ [] := hw w List.mem_cons_self
    have ht := tx_length gen w q
    by_cases h : w.length ≤ n
    · have ih := repl_take gen ws (q + w.length) (n - w.length) (out ++ [w]) (fun x hx => hw x (List.mem_cons_of_mem _ hx)) hk.2
      have e : (allS gen q (w :: ws)).take n = tx gen q w ++ (allS gen (q + w.length) ws).take (n - w.length) := by
        simp only [allS]
        rw [List.take_append, ht, List.take_of_length_le (by omega)]
      rw [e, repl_tx gen w q out [] _ hne hk.1, List.nil_append, ih, cnt, if_pos h, List.take_succ_cons, List.append_assoc]
      rfl
    · have e : (allS gen q (w :: ws)).take n = (tx gen q w).take n := by
        simp only [allS]
        rw [List.take_append_of_le_length (by omega)]
      rw [e, repl_part gen w q n out [] (by omega) hk.1, cnt, if_neg h]
      simp
theorem cnt_all (gen : Int) : ∀ (ws : List (List S23)) (q : Nat), cnt (allS gen q ws).length ws = ws.length
  | [], _ => rfl
  | w :: ws, q => by
    simp only [allS, List.length_append, tx_length, cnt, List.length_cons]
    rw [if_pos (by omega), Nat.add_sub_cancel_left, cnt_all gen ws]
theorem repl_all (gen : Int) (ws : List (List S23)) (hw : ∀ w ∈ ws, w ≠ []) (hk : okA gen 0 ws) : replS gen (allS gen 0 ws) 0 [] [] = ws := by
  have h := repl_take gen ws 0 (allS gen 0 ws).length [] hw hk
  rw [List.take_length, cnt_all, List.take_length, List.nil_append] at h
  exact h
theorem repl_other (gen : Int) (ws : List (List S23)) (hw : ∀ w ∈ ws, w ≠ []) (hk : okA gen 0 ws) : replS (gen + 1) (allS gen 0 ws) 0 [] [] = [] := by
  match ws, hw, hk with
  | [], _, _ => rfl
  | [] :: _, hw, _ => exact absurd rfl (hw [] List.mem_cons_self)
  | (r :: rs) :: ws, _, hk =>
    simp only [allS, tx, List.cons_append]
    rw [replS, dec_encB _ hk.1.1, if_neg (by dsimp only; omega)]
theorem cnt_le : ∀ (ws : List (List S23)) (n : Nat), cnt n ws ≤ ws.length
  | [], _ => Nat.le_refl _
  | w :: ws, n => by
    unfold cnt
    have := cnt_le ws (n - w.length)
    simp only [List.length_cons]
    split <;> omega
structure Inv (gen : Int) (whole : List (List S23)) : Prop where
  ok : okA gen 0 whole
  ne : ∀ w ∈ whole, w ≠ []
  len : ∀ w ∈ whole, w.length < 9223372036854775807
theorem cuts_j4 (gen : Int) (hg : 0 ≤ gen ∧ gen ≤ 65535) (whole : List (List S23)) (I : Inv gen whole) (n : Nat) (hn : n ≤ (allS gen 0 whole).length) :
    Ev (fun k => stowagelaw15_LineCuts.j4 k gen (allS gen 0 whole) whole (n : Int) ((cnt n whole : Nat) : Int)) true := by
  have hL := allS_length gen whole 0 I.ok
  have hF := few gen whole 0 I.ne
  have hB := allS_bytes gen whole 0
  have hc := cnt_le whole n
  have eg : wrap64 gen = gen := wrap64_id _ (by omega) (by omega)
  have eg1 : wrap64 (gen + 1) = gen + 1 := wrap64_id _ (by omega) (by omega)
  obtain ⟨K0, m0⟩ := awake_ev
  obtain ⟨K1, m1⟩ := repl_ev gen (allS gen 0 whole) hB
  obtain ⟨K2, m2⟩ := repl_ev gen ((allS gen 0 whole).take n) (fun b hb => hB b (List.mem_of_mem_take hb))
  obtain ⟨K3, m3⟩ := repl_ev (gen + 1) (allS gen 0 whole) hB
  rw [repl_all gen whole I.ne I.ok] at m1
  have ht := repl_take gen whole 0 n [] I.ne I.ok
  rw [List.nil_append] at ht
  have ht' : replS gen ((allS gen 0 whole).take n) 0 [] [] = whole.take (cnt n whole) := ht
  rw [ht'] at m2
  rw [repl_other gen whole I.ne I.ok] at m3
  obtain ⟨K4, m4⟩ := same_ev whole (by omega) I.len
  obtain ⟨K5, m5⟩ := same_ev (whole.take (cnt n whole)) (by rw [List.length_take]; omega) (fun x hx => I.len x (List.mem_of_mem_take hx))
  refine ⟨K0 + K1 + K2 + K3 + K4 + K5 + 1, fun k hk => ?_⟩
  obtain ⟨m, rfl⟩ : ∃ m, k = m + 1 := ⟨k - 1, by omega⟩
  have n0 := m0 m (by omega)
  have n1 := m1 m (by omega)
  have n2 := m2 m (by omega)
  have n3 := m3 m (by omega)
  have n4 := m4 m (by omega)
  have n5 := m5 m (by omega)
  dsimp only at n0 n1 n2 n3 n4 n5
  have tn : (n : Int).toNat = n := by omega
  have tc : ((cnt n whole : Nat) : Int).toNat = cnt n whole := by omega
  simp only [stowagelaw15_LineCuts.j4]
  rw [n0, Option.bind_some, if_pos rfl, eg, n1, Option.bind_some, n4, Option.bind_some, if_pos rfl, if_pos (by omega), if_pos (by omega), tn, n2, Option.bind_some, if_pos (by omega), if_pos (by omega), tc, n5, Option.bind_some, if_pos rfl, eg1, n3, Option.bind_some]
  rfl
theorem cuts_l2 (gen : Int) (secs : List (List Int)) (whole : List (List S23)) (n : Nat) (hw : whole.length < 9223372036854775807) : ∀ (ws : List (List S23)) (k0 base : Nat), whole.drop k0 = ws → (endsOf 0 whole).drop k0 = endsOf base ws → base ≤ n → k0 ≤ whole.length →
    Ev (fun k => stowagelaw15_LineCuts.j4 k gen secs whole (n : Int) ((k0 + cnt (n - base) ws : Nat) : Int)) true → Ev (fun k => stowagelaw15_LineCuts.l2 k gen secs whole (endsOf 0 whole) (n : Int) (k0 : Int)) true
  | [], k0, base, hd, _, _, hk, h => by
    have hl := congrArg List.length hd
    simp only [List.length_drop, List.length_nil] at hl
    have he := endsOf_length whole 0
    refine Ev.step (fun k => ?_) h
    simp only [stowagelaw15_LineCuts.l2]
    rw [if_neg (by omega)]
    rfl
  | w :: ws, k0, base, hd, he, hb, hk, h => by
    have hl := congrArg List.length hd
    simp only [List.length_drop, List.length_cons] at hl
    have hE := endsOf_length whole 0
    have hr : rd (endsOf 0 whole) (k0 : Int) = ((base + w.length : Nat) : Int) := by
      have h1 := drop_rd (endsOf 0 whole) k0 (by omega)
      rw [he, endsOf] at h1
      injection h1 with h1 _
      exact h1.symm
    have hd' : whole.drop (k0 + 1) = ws := by
      rw [← List.drop_drop, hd]
      rfl
    have he' : (endsOf 0 whole).drop (k0 + 1) = endsOf (base + w.length) ws := by
      rw [← List.drop_drop, he]
      rfl
    by_cases hlt : base + w.length ≤ n
    · have ih := cuts_l2 gen secs whole n hw ws (k0 + 1) (base + w.length) hd' he' hlt (by omega) (by
        rw [cnt, if_pos (by omega)] at h
        rw [show k0 + 1 + cnt (n - (base + w.length)) ws = k0 + (cnt (n - base - w.length) ws + 1) by rw [Nat.sub_sub]; omega]
        exact h)
      refine Ev.step (fun k => ?_) ih
      simp only [stowagelaw15_LineCuts.l2]
      rw [if_pos (by omega), if_pos (by omega), hr, if_pos (by omega), wrap64_succ k0 (by omega)]
    · rw [cnt, if_neg (by omega)] at h
      refine Ev.step (fun k => ?_) h
      simp only [stowagelaw15_LineCuts.l2]
      rw [if_pos (by omega), if_pos (by omega), hr, if_neg (by omega)]
      rfl
theorem cuts_end (x0 : List (List S23)) (gen : Int) (hg : 0 ≤ gen ∧ gen ≤ 65535) (cut i : Int) (hc : 0 ≤ cut ∧ cut ≤ 65535) (whole : List (List S23)) (I : Inv gen whole) :
    Ev (fun k => stowagelaw15_LineCuts.j1 k x0 gen cut (allS gen 0 whole) whole (endsOf 0 whole) i false) true := by
  have hL := allS_length gen whole 0 I.ok
  have hF := few gen whole 0 I.ne
  obtain ⟨c, rfl⟩ := Int.eq_ofNat_of_zero_le hc.1
  have e1 : wrap64 (((allS gen 0 whole).length : Int) + 1) = (((allS gen 0 whole).length + 1 : Nat) : Int) := wrap64_succ _ (by omega)
  have em : Int.tmod (wrap64 (c : Int)) (((allS gen 0 whole).length + 1 : Nat) : Int) = ((c % ((allS gen 0 whole).length + 1) : Nat) : Int) := by
    rw [wrap64_id _ (by omega) (by omega), Int.tmod_eq_emod_of_nonneg (by omega)]
    rfl
  have hm : c % ((allS gen 0 whole).length + 1) < (allS gen 0 whole).length + 1 := Nat.mod_lt _ (by omega)
  have h := cuts_l2 gen (allS gen 0 whole) whole (c % ((allS gen 0 whole).length + 1)) (by omega) whole 0 0 rfl rfl (Nat.zero_le _) (Nat.zero_le _) (by
    have := cuts_j4 gen hg whole I (c % ((allS gen 0 whole).length + 1)) (by omega)
    rw [Nat.sub_zero, Nat.zero_add]
    exact this)
  refine Ev.step (fun k => ?_) h
  simp only [stowagelaw15_LineCuts.j1]
  rw [if_neg (by decide), e1, if_neg (by omega), em]
  rfl
theorem rdT23 (l : List S23) (i : Nat) (h : i < l.length) : rd_T23 l (i : Int) = l[i] := by
  unfold rd_T23
  rw [Int.toNat_natCast, List.getD_eq_getElem?_getD, List.getElem?_eq_getElem h]
  rfl
theorem cuts_l1 (x0 : List (List S23)) (gen cut : Int) (hg : 0 ≤ gen ∧ gen ≤ 65535) (whole : List (List S23)) (ends : List Int) (i : Nat) (hi : i < x0.length) (W : List S23) (hW : rd_L6 x0 (i : Int) = W) (hWl : W.length < 9223372036854775807) (base : List (List Int))
    (hN : okT gen base.length W → Ev (fun k => (if ((W.length : Nat) : Int) > 0 then (if whole.length < 5864062014805 then (if ends.length < 17592186044416 then (stowagelaw15_LineCuts.l0 k x0 gen cut (base ++ tx gen base.length W) (whole ++ [W]) (ends ++ [((base ++ tx gen base.length W).length : Int)]) (wrap64 ((i : Int) + 1))) else (none)) else (none)) else (stowagelaw15_LineCuts.l0 k x0 gen cut (base ++ tx gen base.length W) whole ends (wrap64 ((i : Int) + 1))))) true) :
    ∀ (d j : Nat), j + d = W.length → okT gen base.length (W.take j) → Ev (fun k => stowagelaw15_LineCuts.l1 k x0 gen cut (base ++ (tx gen base.length W).take j) whole ends (i : Int) (j : Int)) true := by
  intro d
  induction d with
  | zero =>
    intro j hj hk
    obtain rfl : j = W.length := by omega
    rw [List.take_length] at hk
    have ht : (tx gen base.length W).take W.length = tx gen base.length W := List.take_of_length_le (by rw [tx_length]; omega)
    rw [ht]
    refine Ev.step (fun k => ?_) (hN hk)
    simp only [stowagelaw15_LineCuts.l1]
    rw [hW, if_pos (by omega), if_pos (by omega), if_neg (by omega)]
  | succ d ih =>
    intro j hj hk
    have hjl : j < W.length := by omega
    have hlen : (base ++ (tx gen base.length W).take j).length = base.length + j := by
      rw [List.length_append, List.length_take, tx_length]
      omega
    have hT : rd_T23 W (j : Int) = W[j] := rdT23 W j hjl
    have hlast : ((j : Int) == wrap64 ((W.length : Int) - 1)) = decide (j + 1 = W.length) := by
      rw [wrap64_id _ (by omega) (by omega)]
      by_cases h : j + 1 = W.length
      · rw [decide_eq_true h, beq_iff_eq]
        omega
      · rw [decide_eq_false h, beq_eq_false_iff_ne]
        omega
    have eg : wrap64 gen = gen := wrap64_id _ (by omega) (by omega)
    obtain ⟨K1, m1⟩ := enc_ev gen ((base.length + j : Nat) : Int) (decide (j + 1 = W.length)) W[j].f0 W[j].f1 W[j].f2 W[j].f3 W[j].f4 W[j].f5
    by_cases h0 : (encS gen ((base.length + j : Nat) : Int) (decide (j + 1 = W.length)) W[j].f0 W[j].f1 W[j].f2 W[j].f3 W[j].f4 W[j].f5).2 = 0
    · obtain ⟨hok, hkey, he⟩ := encS_ok h0
      rw [he] at m1
      have hq := (of_decide_eq_true hok).2.2.2.1
      have hk' : okT gen base.length (W.take (j + 1)) := by
        rw [List.take_add_one, List.getElem?_eq_getElem hjl]
        exact okT_snoc gen (W.take j) base.length W[j] hk (by rw [List.length_take, Nat.min_eq_left (by omega)]; exact ⟨hok, hkey⟩)
      obtain ⟨K2, m2⟩ := ih (j + 1) (by omega) hk'
      rw [tx_take gen W base.length j hjl, ← List.append_assoc] at m2
      refine ⟨K1 + K2 + 1, fun k hk0 => ?_⟩
      obtain ⟨n, rfl⟩ : ∃ n, k = n + 1 := ⟨k - 1, by omega⟩
      have n1 := m1 n (by omega)
      have n2 := m2 n (by omega)
      dsimp only at n1 n2
      simp only [stowagelaw15_LineCuts.l1]
      rw [hW, if_pos (by omega), if_pos (by omega), if_pos (by omega), if_pos (by omega), hT, hlast, eg, hlen, n1, Option.bind_some]
      dsimp only
      rw [if_pos rfl, if_pos (by omega), wrap64_succ j (by omega)]
      exact n2
    · obtain ⟨K2, m2⟩ := awake_ev
      refine ⟨K1 + K2 + 1, fun k hk0 => ?_⟩
      obtain ⟨n, rfl⟩ : ∃ n, k = n + 1 := ⟨k - 1, by omega⟩
      have n1 := m1 n (by omega)
      have n2 := m2 n (by omega)
      dsimp only at n1 n2
      simp only [stowagelaw15_LineCuts.l1]
      rw [hW, if_pos (by omega), if_pos (by omega), if_pos (by omega), if_pos (by omega), hT, hlast, eg, hlen, n1, Option.bind_some, if_neg h0, n2]
      rfl
theorem cuts_l0 (x0 : List (List S23)) (gen cut : Int) (hg : 0 ≤ gen ∧ gen ≤ 65535) (hc : 0 ≤ cut ∧ cut ≤ 65535) (hx : x0.length < 9223372036854775807) (hl : ∀ w ∈ x0, w.length < 9223372036854775807) : ∀ (d i : Nat) (whole : List (List S23)), i + d = x0.length → Inv gen whole →
    Ev (fun k => stowagelaw15_LineCuts.l0 k x0 gen cut (allS gen 0 whole) whole (endsOf 0 whole) (i : Int)) true := by
  intro d
  induction d with
  | zero =>
    intro i whole hi I
    refine Ev.step (fun k => ?_) (cuts_end x0 gen hg cut (i : Int) hc whole I)
    simp only [stowagelaw15_LineCuts.l0]
    rw [if_neg (by omega)]
  | succ d ih =>
    intro i whole hi I
    have hil : i < x0.length := by omega
    have hL := allS_length gen whole 0 I.ok
    have hF := few gen whole 0 I.ne
    have hE := endsOf_length whole 0
    by_cases h3 : ((allS gen 0 whole).length : Int) < 300
    · have hWl : (rd_L6 x0 (i : Int)).length < 9223372036854775807 := by
        rw [rdL6 x0 i hil]
        exact hl _ (List.getElem_mem hil)
      have h := cuts_l1 x0 gen cut hg whole (endsOf 0 whole) i hil _ rfl hWl (allS gen 0 whole) (fun hk => by
        by_cases h0 : ((rd_L6 x0 (i : Int)).length : Int) > 0
        · have hk0 : okT gen (0 + (allS gen 0 whole).length) (rd_L6 x0 (i : Int)) := by rw [Nat.zero_add]; exact hk
          have I' : Inv gen (whole ++ [rd_L6 x0 (i : Int)]) := by
            refine ⟨okA_snoc gen whole 0 _ I.ok hk0, fun w hw => ?_, fun w hw => ?_⟩
            · rcases List.mem_append.1 hw with hw | hw
              · exact I.ne w hw
              · rw [List.mem_singleton.1 hw]
                intro e
                rw [e] at h0
                simp at h0
            · rcases List.mem_append.1 hw with hw | hw
              · exact I.len w hw
              · rw [List.mem_singleton.1 hw]
                exact hWl
          have h1 := ih (i + 1) (whole ++ [rd_L6 x0 (i : Int)]) (by omega) I'
          rw [allS_snoc, endsOf_snoc gen, Nat.zero_add] at h1
          refine Ev.congr (fun k => ?_) h1
          rw [if_pos h0, if_pos (by omega), if_pos (by omega), wrap64_succ i (by omega), List.length_append, tx_length]
        · have e0 : rd_L6 x0 (i : Int) = [] := by
            refine List.eq_nil_of_length_eq_zero ?_
            omega
          have h1 := ih (i + 1) whole (by omega) I
          refine Ev.congr (fun k => ?_) h1
          rw [if_neg h0, e0, wrap64_succ i (by omega)]
          simp [tx]) (rd_L6 x0 (i : Int)).length 0 (by omega) (by simp [okT])
      rw [List.take_zero, List.append_nil] at h
      obtain ⟨K, m⟩ := h
      refine ⟨K + 2, fun k hk => ?_⟩
      obtain ⟨n, rfl⟩ : ∃ n, k = n + 2 := ⟨k - 2, by omega⟩
      have n1 := m n (by omega)
      dsimp only at n1
      simp only [stowagelaw15_LineCuts.l0]
      rw [if_pos (by omega), decide_eq_true h3]
      simp only [stowagelaw15_LineCuts.j1]
      rw [if_pos trivial]
      exact n1
    · refine Ev.step (fun k => ?_) (cuts_end x0 gen hg cut (i : Int) hc whole I)
      simp only [stowagelaw15_LineCuts.l0]
      rw [if_pos (by omega), decide_eq_false h3]
theorem LineCuts : StLineCuts := by
  intro x0 gen cut h0 h1 h2
  have hg : 0 ≤ gen ∧ gen ≤ 65535 := by
    simp [Lit.wf, IntKind.min, IntKind.max, IntKind.signed, IntKind.bits] at h1
    omega
  have hc : 0 ≤ cut ∧ cut ≤ 65535 := by
    simp [Lit.wf, IntKind.min, IntKind.max, IntKind.signed, IntKind.bits] at h2
    omega
  apply Ev.rounds
  exact cuts_l0 x0 gen cut hg hc (by omega) (fun w hw => by have := (h0.2.2 w hw).2.1; omega) x0.length 0 [] (by omega) ⟨trivial, fun w hw => by simp at hw, fun w hw => by simp at hw⟩
end Go.Proofs.Ytjfdjbmahahllaa.Pure
