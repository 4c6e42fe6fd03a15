/- A constant's bytes: the literal's row, the mark that its conversion lays behind it, and the append that copies it. For regions that draw their order. -/
import Derived.Test.YtfiobfjolkmdpaaDoorWMore
import Derived.Laws.Append
import Derived.Lib.SlBytesConst
namespace Go.Proofs.YtfiobfjolkmdpaaDoor.Fz
open Go Go.RowKit Go.Proofs.YtfiobfjolkmdpaaDoorW.PrintWords Go.Proofs.YtfiobfjolkmdpaaDoorW.PrintLast

theorem fz_new {W : World} {g : Nat} {cs : Array Value} {t : TypeId} (h : W.heap[g]? = some (.cells cs t (0, 0))) (k : Nat) :
    (W.freeze ⟨g, k, none⟩ 1).heap[g]? = some (.cells cs t (k, k + 1)) := by
  unfold World.freeze
  rw [if_neg (by decide)]
  rw [Array.getElem?_modify, if_pos rfl, h]
  rfl
theorem fz_grown (W : World) (g k : Nat) : W.grownBy (W.freeze ⟨g, k, none⟩ 1) (some g) := by
  unfold World.freeze
  rw [if_neg (by decide)]
  refine ⟨rfl, rfl, rfl, by simp, fun j _ hj => ?_⟩
  have : g ≠ j := fun e => hj (by rw [e])
  simp [Array.getElem?_modify, this]
theorem fz_below {B : Nat} {w0 W : World} (hB : Below B w0 W) {g : Nat} (hg : B ≤ g) (k : Nat) : Below B w0 (W.freeze ⟨g, k, none⟩ 1) := by
  have h := fz_grown W g k
  refine ⟨h.os.trans hB.os, h.tape.trans hB.tape, h.output.trans hB.output, ?_, fun j hj => ?_⟩
  · have h2 : W.heap.size ≤ (W.freeze ⟨g, k, none⟩ 1).heap.size := by
      unfold World.freeze
      rw [if_neg (by decide)]
      simp
    exact Nat.le_trans hB.size h2
  · rw [← hB.block j hj]
    unfold World.freeze
    rw [if_neg (by decide)]
    have : g ≠ j := by omega
    simp [Array.getElem?_modify, this]
theorem fz_run {P : Program} {W : World} {T e : TypeId} {g n c : Nat} {cs : Array Value} (h : W.heap[g]? = some (.cells cs e (0, 0))) (hT : P.underlying T = some (.slice e)) (he : P.underlying e = some (.int .u8)) :
    (convert T T (.slice (some ⟨g, 0, none⟩) n c)).run P W = .ok (.slice (some ⟨g, 0, none⟩) n c) (W.freeze ⟨g, cs.size, none⟩ 1) := by
  have hsh : W.shape? g = some (e, cs.size) := by
    unfold World.shape?
    rw [h]
  simp [convert, run_underlying hT, run_underlying he, markStringish, hsh]

theorem far {W : World} {g i : Nat} {v : Value} {ad : Addr} {x : Option Value} (h : ad.block ≠ g) (e : W.cell? ad = x) : (W.setCell ⟨g, i, none⟩ v).cell? ad = x := (cell_far (p := ⟨g, i, none⟩) h v).trans e
theorem typedA {W : World} {g n c : Nat} {cs : Array Value} {t : TypeId} (h : W.heap[g]? = some (.cells cs t (0, 0))) : ∀ k, (Value.slice (some ⟨g, 0, none⟩) n c).ownBlock = some k → ∃ cells, W.heap[k]? = some (.cells cells t (0, 0)) := by
  intro k hk
  have : g = k := by simpa [Value.ownBlock] using hk
  subst this
  exact ⟨_, h⟩
section
variable {P : Program} {ops : Array Oper} {o : Oper} {a : Act} {Q : Exit → Act → World → Prop} {Kc : Act → World → Prop}
/-- The literal, as a block. -/
theorem lit_step {W : World} (hw : Region.wanted o (yielded ops a.tmps) = true) {N : Tmp} (_hd : o.dst = some N) {cs : Array Value} {t : TypeId} {n : Nat}
    (hrun : (execOp a.eval o).run P W = .ok (.value (.slice (some ⟨W.heap.size, 0, none⟩) n n)) (W.alloc (.cells cs t)))
    (h : ∀ g, g = W.heap.size → ∀ w1, w1.heap[g]? = some (.cells cs t (0, 0)) → Below W.heap.size W w1 → Kc (a.put o.dst (.slice (some ⟨g, 0, none⟩) n n)) w1) :
    if Region.wanted o (yielded ops a.tmps) = true then Oper.wp P o a W Kc Q else Kc (a.put o.dst undef) W :=
  event_step hw hrun (h _ rfl _ (blk_new W _) (below_alloc (Below.refl _ _) _))
/-- The conversion: the mark is laid. -/
theorem conv_step {W : World} (hw : Region.wanted o (yielded ops a.tmps) = true) {T e : TypeId} {s : Operand} {g n c : Nat} {cs : Array Value} (ho : o.op = .convert T T s) (hs : a.eval s = .slice (some ⟨g, 0, none⟩) n c)
    (hb : W.heap[g]? = some (.cells cs e (0, 0))) (hT : P.underlying T = some (.slice e)) (he : P.underlying e = some (.int .u8))
    (h : ∀ w1, w1.heap[g]? = some (.cells cs e (cs.size, cs.size + 1)) → W.grownBy w1 (some g) → (∀ B w0, Below B w0 W → B ≤ g → Below B w0 w1) → Kc (a.put o.dst (.slice (some ⟨g, 0, none⟩) n c)) w1) :
    if Region.wanted o (yielded ops a.tmps) = true then Oper.wp P o a W Kc Q else Kc (a.put o.dst undef) W := by
  refine event_step hw (w1 := W.freeze ⟨g, cs.size, none⟩ 1) ?_ (h _ (fz_new hb _) (fz_grown W g _) (fun B w0 hB hg => fz_below hB hg _))
  have hr := fz_run (P := P) (n := n) (c := c) hb hT he
  unfold execOp
  simp [ho, hs, hr]
/-- An append behind it: no room, so all is copied. -/
theorem app_step {w0 W : World} (base : Nat) (hw : Region.wanted o (yielded ops a.tmps) = true) (s x : Operand) (T e : TypeId)
    (ho : o.op = .call { callee := .builtin .append, args := #[s, x], argTypes := #[T, T] })
    (ht : P.underlying T = some (.slice e)) (hinfo : (P.info? e).map (fun i => (i.zero, i.size, i.bytes)) = some (some (.int .u8 0), 1, 1))
    (g : Nat) (xs ys : List Int) (fr : Nat × Nat) (A : Option Addr) (m c : Nat) (hs : a.eval s = .slice (some ⟨g, 0, none⟩) xs.length xs.length) (hx : a.eval x = .slice A m c)
    (hb : W.heap[g]? = some (.cells (encs (Value.int .u8) xs).toArray e fr)) (HR : Kd.C (Kd.int .u8) W A m ys) (h0 : 0 < m) (HB : Below base w0 W) (hbase : base ≤ W.heap.size) (hl : xs.length + m ≤ 140737488355328)
    (h : ∀ v1 w1, Kd.R (Kd.int .u8) e w1 base (fun k => W.heap.size ≤ k) v1 (xs ++ ys) → Below base w0 w1 → Below W.heap.size W w1 → Kc (a.put o.dst v1) w1) :
    if Region.wanted o (yielded ops a.tmps) = true then Oper.wp P o a W Kc Q else Kc (a.put o.dst undef) W := by
  obtain ⟨i0, hi, hzz⟩ := Option.map_eq_some_iff.1 hinfo
  simp only [Prod.mk.injEq] at hzz
  obtain ⟨hz0, hz1, hz2⟩ := hzz
  have hm : ys.length = m := HR.1
  obtain ⟨ad, rfl, _⟩ := HR.2.2 h0
  obtain ⟨news, hnr, hnc⟩ := ReadsRow.inner_ HR
  have hn1 : news.length = m := by
    have h2 := hnr.1
    have h3 : (Kd.int .u8).sz = 1 := rfl
    rw [h3] at h2
    omega
  have hreps : Reps ((Kd.int .u8).K W) 1 ys news := hnr
  have hnews : news = encs (Value.int .u8) ys := by
    apply List.ext_getElem?
    intro j
    rcases Nat.lt_or_ge j ys.length with hj | hj
    · have h2 := hreps.2 j _ (List.getElem?_eq_getElem hj)
      have h3 : (news.drop (j * 1)).take 1 = [Value.int .u8 ys[j]] := h2
      have h4 : (news.drop (j * 1))[0]? = some (Value.int .u8 ys[j]) := by
        have h5 : ((news.drop (j * 1)).take 1)[0]? = some (Value.int .u8 ys[j]) := by rw [h3]; rfl
        rwa [List.getElem?_take, if_pos (by decide)] at h5
      rw [List.getElem?_drop, Nat.mul_one, Nat.add_zero] at h4
      rw [h4]
      simp [encs, List.getElem?_eq_getElem hj]
    · rw [List.getElem?_eq_none (by omega), List.getElem?_eq_none (by simp [encs]; omega)]
  subst hnews
  have holds : ∀ j u, (encs (Value.int .u8) xs)[j]? = some u → W.cell? ((⟨g, 0, none⟩ : Addr).add j) = some u := by
    intro j u hu
    rw [add_plain]
    simp only [World.cell?, hb]
    simpa using hu
  have hr := run_append_grow (P := P) W T o.type e i0 (.int .u8 0) ht hi hz0 ⟨g, 0, none⟩ xs.length xs.length (encs (Value.int .u8) xs) (by simp [encs, hz1]) holds ad m c (encs (Value.int .u8) ys) (by rw [hn1, hz1, Nat.mul_one]) hnc (by omega) (by omega)
    (growslice_fits (by omega) (by rw [hz2]; omega))
  have hge := grownCap_ge W (xs.length + m) xs.length e
  have hcm : grownCap W (xs.length + m) xs.length e ≤ maxLen := grownCap_le_maxLen W (xs.length + m) xs.length e (by simp only [maxLen]; omega)
  refine event_step hw (v := .slice (some ⟨W.heap.size, 0, none⟩) (xs.length + m) (grownCap W (xs.length + m) xs.length e)) (w1 := W.drew.alloc (.cells ((encs (Value.int .u8) xs).toArray ++ (encs (Value.int .u8) ys).toArray ++ Builtin.zeroCells (Value.int .u8 0).cells (grownCap W (xs.length + m) xs.length e - (xs.length + m))) e)) ?_ (h _ _ ?_ ?_ ?_)
  · unfold execOp
    simp only [ho, resolve, invoke, builtin, Sem.run_bind, Sem.run_pure, Result.andThen_ok, List.map_toArray, List.map_cons, List.map_nil, hs, hx, hr]
  · refine Kd.R_of_own (h1 := fun _ => rfl) ?_ (fun k hk => by
      have : W.heap.size = k := by simpa [Value.ownBlock] using hk
      omega)
    refine ⟨by simp [encs], .inr ⟨W.heap.size, _, _, by rw [List.length_append, hm], hbase, heap_alloc_new W.drew _, by rw [List.length_append, hm]; exact hge, hcm, ?_, ?_⟩⟩
    · simp only [Array.size_append, List.size_toArray, size_zeroCells]
      simp [encs, Value.cells]
      omega
    · simp only [Array.toList_append, List.append_assoc]
      rw [← List.append_assoc]
      have h6 : (xs ++ ys).length * 1 = (encs (Value.int .u8) xs ++ encs (Value.int .u8) ys).length := by simp [encs]
      rw [h6, List.take_left]
      simp [encs]
  · have h7 : Below base w0 W.drew := ⟨HB.os, HB.tape, HB.output, HB.size, HB.block⟩
    exact h7.alloc hbase _
  · have h7 : Below W.heap.size W W.drew := ⟨rfl, rfl, rfl, Nat.le_refl _, fun _ _ => rfl⟩
    exact h7.alloc (Nat.le_refl _) _
end
section
variable {P : Program} {ops : Array Oper} {rest : List Oper} {o : Oper} {a : Act} {Q : Exit → Act → World → Prop}
theorem ne_blk {W : World} {g g' : Nat} {cs cs' : Array Value} {t t' : TypeId} {fr fr' : Nat × Nat} (h : W.heap[g]? = some (.cells cs t fr)) (h' : W.heap[g']? = some (.cells cs' t' fr')) (ht : t ≠ t') : some g ≠ some g' := by
  intro e
  injection e with e
  subst e
  rw [h] at h'
  injection h' with h'
  injection h' with _ h'
  exact ht h'
/-- The literal, as a block: in a walk that draws nothing. -/
theorem lit_run {W : World} (hgd : o.guard = none) {N : Tmp} (_hd : o.dst = some N) {cs : Array Value} {t : TypeId} {n : Nat}
    (hrun : (execOp a.eval o).run P W = .ok (.value (.slice (some ⟨W.heap.size, 0, none⟩) n n)) (W.alloc (.cells cs t)))
    (h : ∀ g, g = W.heap.size → ∀ w1, w1.heap[g]? = some (.cells cs t (0, 0)) → Below W.heap.size W w1 → wpList P ops Q rest (a.put o.dst (.slice (some ⟨g, 0, none⟩) n n)) w1) : wpList P ops Q (o :: rest) a W :=
  Kd.event_run hgd hrun (h _ rfl _ (blk_new W _) (below_alloc (Below.refl _ _) _))
/-- The conversion: the mark is laid. -/
theorem conv_run {W : World} (hgd : o.guard = none) {T e : TypeId} {s : Operand} {g n c : Nat} {cs : Array Value} (ho : o.op = .convert T T s) (hs : a.eval s = .slice (some ⟨g, 0, none⟩) n c)
    (hb : W.heap[g]? = some (.cells cs e (0, 0))) (hT : P.underlying T = some (.slice e)) (he : P.underlying e = some (.int .u8))
    (h : ∀ w1, w1.heap[g]? = some (.cells cs e (cs.size, cs.size + 1)) → W.grownBy w1 (some g) → (∀ B w0, Below B w0 W → B ≤ g → Below B w0 w1) → wpList P ops Q rest (a.put o.dst (.slice (some ⟨g, 0, none⟩) n c)) w1) : wpList P ops Q (o :: rest) a W := by
  refine Kd.event_run hgd (w1 := W.freeze ⟨g, cs.size, none⟩ 1) ?_ (h _ (fz_new hb _) (fz_grown W g _) (fun B w0 hB hg => fz_below hB hg _))
  have hr := fz_run (P := P) (n := n) (c := c) hb hT he
  unfold execOp
  simp [ho, hs, hr]
/-- An append behind it: no room, so all is copied. -/
theorem app_run {w0 W : World} (base : Nat) (hgd : o.guard = none) (s x : Operand) (T e : TypeId)
    (ho : o.op = .call { callee := .builtin .append, args := #[s, x], argTypes := #[T, T] })
    (ht : P.underlying T = some (.slice e)) (hinfo : (P.info? e).map (fun i => (i.zero, i.size, i.bytes)) = some (some (.int .u8 0), 1, 1))
    (g : Nat) (xs ys : List Int) (fr : Nat × Nat) (A : Option Addr) (m c : Nat) (hs : a.eval s = .slice (some ⟨g, 0, none⟩) xs.length xs.length) (hx : a.eval x = .slice A m c)
    (hb : W.heap[g]? = some (.cells (encs (Value.int .u8) xs).toArray e fr)) (HR : Kd.C (Kd.int .u8) W A m ys) (h0 : 0 < m) (HB : Below base w0 W) (hbase : base ≤ W.heap.size) (hl : xs.length + m ≤ 140737488355328)
    (h : ∀ v1 w1, Kd.R (Kd.int .u8) e w1 base (fun k => W.heap.size ≤ k) v1 (xs ++ ys) → Below base w0 w1 → Below W.heap.size W w1 → wpList P ops Q rest (a.put o.dst v1) w1) : wpList P ops Q (o :: rest) a W := by
  obtain ⟨i0, hi, hzz⟩ := Option.map_eq_some_iff.1 hinfo
  simp only [Prod.mk.injEq] at hzz
  obtain ⟨hz0, hz1, hz2⟩ := hzz
  have hm : ys.length = m := HR.1
  obtain ⟨ad, rfl, _⟩ := HR.2.2 h0
  obtain ⟨news, hnr, hnc⟩ := ReadsRow.inner_ HR
  have hn1 : news.length = m := by
    have h2 := hnr.1
    have h3 : (Kd.int .u8).sz = 1 := rfl
    rw [h3] at h2
    omega
  have hreps : Reps ((Kd.int .u8).K W) 1 ys news := hnr
  have hnews : news = encs (Value.int .u8) ys := by
    apply List.ext_getElem?
    intro j
    rcases Nat.lt_or_ge j ys.length with hj | hj
    · have h2 := hreps.2 j _ (List.getElem?_eq_getElem hj)
      have h3 : (news.drop (j * 1)).take 1 = [Value.int .u8 ys[j]] := h2
      have h4 : (news.drop (j * 1))[0]? = some (Value.int .u8 ys[j]) := by
        have h5 : ((news.drop (j * 1)).take 1)[0]? = some (Value.int .u8 ys[j]) := by rw [h3]; rfl
        rwa [List.getElem?_take, if_pos (by decide)] at h5
      rw [List.getElem?_drop, Nat.mul_one, Nat.add_zero] at h4
      rw [h4]
      simp [encs, List.getElem?_eq_getElem hj]
    · rw [List.getElem?_eq_none (by omega), List.getElem?_eq_none (by simp [encs]; omega)]
  subst hnews
  have holds : ∀ j u, (encs (Value.int .u8) xs)[j]? = some u → W.cell? ((⟨g, 0, none⟩ : Addr).add j) = some u := by
    intro j u hu
    rw [add_plain]
    simp only [World.cell?, hb]
    simpa using hu
  have hr := run_append_grow (P := P) W T o.type e i0 (.int .u8 0) ht hi hz0 ⟨g, 0, none⟩ xs.length xs.length (encs (Value.int .u8) xs) (by simp [encs, hz1]) holds ad m c (encs (Value.int .u8) ys) (by rw [hn1, hz1, Nat.mul_one]) hnc (by omega) (by omega)
    (growslice_fits (by omega) (by rw [hz2]; omega))
  have hge := grownCap_ge W (xs.length + m) xs.length e
  have hcm : grownCap W (xs.length + m) xs.length e ≤ maxLen := grownCap_le_maxLen W (xs.length + m) xs.length e (by simp only [maxLen]; omega)
  refine Kd.event_run hgd (v := .slice (some ⟨W.heap.size, 0, none⟩) (xs.length + m) (grownCap W (xs.length + m) xs.length e)) (w1 := W.drew.alloc (.cells ((encs (Value.int .u8) xs).toArray ++ (encs (Value.int .u8) ys).toArray ++ Builtin.zeroCells (Value.int .u8 0).cells (grownCap W (xs.length + m) xs.length e - (xs.length + m))) e)) ?_ (h _ _ ?_ ?_ ?_)
  · unfold execOp
    simp only [ho, resolve, invoke, builtin, Sem.run_bind, Sem.run_pure, Result.andThen_ok, List.map_toArray, List.map_cons, List.map_nil, hs, hx, hr]
  · refine Kd.R_of_own (h1 := fun _ => rfl) ?_ (fun k hk => by
      have : W.heap.size = k := by simpa [Value.ownBlock] using hk
      omega)
    refine ⟨by simp [encs], .inr ⟨W.heap.size, _, _, by rw [List.length_append, hm], hbase, heap_alloc_new W.drew _, by rw [List.length_append, hm]; exact hge, hcm, ?_, ?_⟩⟩
    · simp only [Array.size_append, List.size_toArray, size_zeroCells]
      simp [encs, Value.cells]
      omega
    · simp only [Array.toList_append, List.append_assoc]
      rw [← List.append_assoc]
      have h6 : (xs ++ ys).length * 1 = (encs (Value.int .u8) xs ++ encs (Value.int .u8) ys).length := by simp [encs]
      rw [h6, List.take_left]
      simp [encs]
  · have h7 : Below base w0 W.drew := ⟨HB.os, HB.tape, HB.output, HB.size, HB.block⟩
    exact h7.alloc hbase _
  · have h7 : Below W.heap.size W W.drew := ⟨rfl, rfl, rfl, Nat.le_refl _, fun _ _ => rfl⟩
    exact h7.alloc (Nat.le_refl _) _
end
end Go.Proofs.YtfiobfjolkmdpaaDoor.Fz
