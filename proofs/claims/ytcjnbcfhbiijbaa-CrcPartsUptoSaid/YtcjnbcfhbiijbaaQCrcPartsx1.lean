/- Written by a program of this session (wip/tools/mk.py) out of the kit's printing programs and of texts of our own: the contracts of the Go functions that the law goes through, and the row of the law. No condition is added. -/
import Derived.Test.YtcjnbcfhbiijbaaQCrcPartsx0
namespace Go.Proofs.Ytcjnbcfhbiijbaa.QCrcParts
open Go.RowKit Go.Proofs.YtcjnbcfhbiijbaaW.PrintWords Go.Proofs.YtcjnbcfhbiijbaaW.PrintLast Go.Proofs.YtcjnbcfhbiijbaaW.PrintMore
attribute [local go_sem] max2_int min2_int max_two min_two max_three min_three max_four min_four   -- for this text's walks alone
set_option linter.unusedVariables false
set_option linter.unusedSimpArgs false

/-! ### crc_step: function 20 -/
def crc_step.f (a0 : Int) : Option (Int) := if (Go.bits .and .u32 a0 1) = 1 then (some (Go.bits .xor .u32 (a0 / 2) 3988292384)) else (some (a0 / 2))
set_option maxHeartbeats 8000000 in
set_option maxRecDepth 100000 in
theorem crc_step.calls (a0 : Int) (r : Int) (w : World) (h : crc_step.f a0 = some r) :
    Calls Try.prog 20 #[.int .u32 a0] w fun e w' => e = .returned (.int .u32 r) ∧ Drawn0 w w' := by
  have H : (if (Go.bits .and .u32 a0 1) = 1 then (some (Go.bits .xor .u32 (a0 / 2) 3988292384)) else (some (a0 / 2))) = some r := h
  clear h
  by_cases c2 : (Go.bits .and .u32 a0 1) = 1
  · rw [if_pos c2] at H
    have c2b0 : ((Go.bits .and .u32 a0 1) == 1) = true := beq_iff_eq.mpr c2
    have c2b1 : ((Go.bits .and .u32 a0 1) != 1) = false := bne_eq_false_iff_eq.mpr c2
    clear c2
    obtain rfl := Option.some.inj H
    go_enter Try.func20, Try.ntmps20
    go_wp2
    go_ret
    exact ⟨by first | rfl | (simp; done) | (simp [*]; done), by repeat (first | exact Drawn0.refl _ | apply Drawn0.step)⟩
  · rw [if_neg c2] at H
    have c2b0 : ((Go.bits .and .u32 a0 1) == 1) = false := beq_eq_false_iff_ne.mpr c2
    have c2b1 : ((Go.bits .and .u32 a0 1) != 1) = true := bne_iff_ne.mpr c2
    obtain rfl := Option.some.inj H
    go_enter Try.func20, Try.ntmps20
    go_wp2
    go_ret
    exact ⟨by first | rfl | (simp; done) | (simp [*]; done), by repeat (first | exact Drawn0.refl _ | apply Drawn0.step)⟩

/-! ### crc_rows: function 19 -/
section
variable {P : Program} {ops : Array Oper} {rest : List Oper} {o : Oper} {a : Act} {Q : Exit → Act → World → Prop} {w w' : World}
theorem wpList_value {v : Value} (hg : o.guard = none) (hr : (execOp a.eval o).run P w = .ok (.value v) w') (h : wpList P ops Q rest (a.put o.dst v) w') : wpList P ops Q (o :: rest) a w := by
  refine wpList_plain hg fun K hK => ?_
  unfold Oper.wp
  rw [hr]
  exact hK _ _ h
theorem wpList_build (t : TypeId) (hg : o.guard = none) (ho : o.op = .build t #[]) (cells : Array Value) (hb : P.built t [] = some cells) (h : wpList P ops Q rest (a.put o.dst (.agg cells)) w) : wpList P ops Q (o :: rest) a w := by
  refine wpList_value hg ?_ h
  unfold execOp
  simp only [ho, List.map_toArray, List.map_nil, Sem.run_bind]
  rw [run_build w t _ cells (by simpa using hb)]
  rfl
theorem wpList_box (t : TypeId) (x : Operand) (cells : Array Value) (hg : o.guard = none) (ho : o.op = .box t x) (hx : a.eval x = .agg cells) (h : wpList P ops Q rest (a.put o.dst (.pointer (some ⟨w.heap.size, 0, none⟩))) (w.alloc (.cells cells t))) : wpList P ops Q (o :: rest) a w := by
  refine wpList_value hg ?_ h
  unfold execOp
  simp only [ho, hx, Sem.run_bind]
  simp [Instr.box, newVar, go_sem]
end

/-- An array of n whole numbers 0. -/
def zArr (k : IntKind) (n : Nat) : Array Value := (List.replicate n (Value.int k 0)).toArray
theorem built46 : Try.prog.built 46 [] = some (zArr .u32 256) := by kernel_rfl

def stepI (r : Int) : Int := if Go.bits .and .u32 r 1 = 1 then Go.bits .xor .u32 (r / 2) 3988292384 else r / 2
theorem stepI_eq (r : Int) : crc_step.f r = some (stepI r) := by unfold crc_step.f stepI; split <;> rfl
def iterI : Nat → Int → Int
  | 0, r => r
  | n + 1, r => stepI (iterI n r)
def tabT (j : Nat) : Int := iterI 8 (j : Int)
/-- Block b holds n whole numbers of which the first k are told by T. -/
structure Tab (T : Nat → Int) (t b n k : Nat) (wr : World) : Prop where mk ::
  (out : ∃ cs : Array Value, wr.heap[b]? = some (.cells cs t (0, 0)) ∧ cs.size = n ∧ (∀ j, j < n → ∃ x, cs[j]? = some (.int .u32 x)) ∧ ∀ j, j < k → cs[j]? = some (.int .u32 (T j)))
theorem Tab.start (T : Nat → Int) (t n : Nat) (w : World) : Tab T t w.heap.size n 0 (w.alloc (.cells (zArr .u32 n) t)) :=
  ⟨zArr .u32 n, heap_alloc_new w _, by simp [zArr], fun j hj => ⟨0, by simp [zArr, hj]⟩, fun j hj => by omega⟩
theorem Tab.lt {T : Nat → Int} {t b n k : Nat} {wr : World} (h : Tab T t b n k wr) : b < wr.heap.size := by
  obtain ⟨cs, h1, _⟩ := h.out
  exact (Array.getElem?_eq_some_iff.1 h1).1
theorem Tab.cell {T : Nat → Int} {t b n k : Nat} {wr : World} (h : Tab T t b n k wr) (j : Nat) (hj : j < n) : ∃ x, wr.cell? ⟨b, j, none⟩ = some (.int .u32 x) := by
  obtain ⟨cs, h1, _, h2, _⟩ := h.out
  obtain ⟨x, hx⟩ := h2 j hj
  exact ⟨x, by simp [World.cell?, h1, hx]⟩
theorem Tab.at_ {T : Nat → Int} {t b n k : Nat} {wr : World} (h : Tab T t b n k wr) (j : Nat) (hj : j < k) : wr.cell? ⟨b, j, none⟩ = some (.int .u32 (T j)) := by
  obtain ⟨cs, h1, _, _, h2⟩ := h.out
  simp [World.cell?, h1, h2 j hj]
theorem Tab.free {T : Nat → Int} {t b n k : Nat} {wr : World} (h : Tab T t b n k wr) (j : Nat) : wr.frozen? ⟨b, j, none⟩ = false := by
  obtain ⟨cs, h1, _⟩ := h.out
  simp [World.frozen?, h1]
theorem Tab.drewN {T : Nat → Int} {t b n k : Nat} {wr : World} (h : Tab T t b n k wr) (m : Nat) : Tab T t b n k (wr.drewN m) := ⟨h.out⟩
theorem Tab.below {T : Nat → Int} {t b n k B : Nat} {wr w' : World} (h : Tab T t b n k wr) (hb : Below B wr w') (hB : b < B) : Tab T t b n k w' := by
  obtain ⟨cs, h1, h2⟩ := h.out
  exact ⟨cs, by rw [hb.block b hB]; exact h1, h2⟩
theorem Tab.store {T : Nat → Int} {t b n k : Nat} {wr : World} (h : Tab T t b n k wr) (hk : k < n) : Tab T t b n (k + 1) (wr.setCell ⟨b, k, none⟩ (.int .u32 (T k))) := by
  obtain ⟨cs, h1, h2, h3, h4⟩ := h.out
  refine ⟨cs.setIfInBounds k (.int .u32 (T k)), ?_, by simpa using h2, fun j hj => ?_, fun j hj => ?_⟩
  · simp [World.setCell, Array.getElem?_modify, h1]
  · by_cases e : k = j
    · subst e; exact ⟨T k, by simp [Array.getElem?_setIfInBounds, h2, hk]⟩
    · obtain ⟨x, hx⟩ := h3 j hj
      exact ⟨x, by simp [Array.getElem?_setIfInBounds, e, hx]⟩
  · by_cases e : k = j
    · subst e; simp [Array.getElem?_setIfInBounds, h2, hk]
    · simp [Array.getElem?_setIfInBounds, e, h4 j (by omega)]

set_option maxHeartbeats 1000000 in
set_option maxRecDepth 100000 in
theorem crc_rows.calls (w : World) : Calls Try.prog 19 #[] w fun e w' => e = .returned (.pointer (some ⟨w.heap.size, 0, none⟩)) ∧ Below w.heap.size w w' ∧ Tab tabT 46 w.heap.size 256 256 w' := by
  have H0 := Tab.start tabT 46 256 w
  have HB0 := Aside0.mk ((Below.refl w.heap.size w).alloc (Nat.le_refl _) (.cells (zArr .u32 256) 46))
  go_enter Try.func19, Try.ntmps19
  go_wp2_with (first | ((with_reducible refine gate_dst (N := 4) rfl ?_); refine wpList_build 46 rfl rfl (zArr .u32 256) built46 ?_) | ((with_reducible refine gate_dst (N := 5) rfl ?_); refine wpList_box 46 (.tmp 4) (zArr .u32 256) rfl rfl rfl ?_))
  go_loopw [6] (fun i wr => ∃ k : Nat, k ≤ 256 ∧ i = .int .i64 k ∧ Aside0 (Below w.heap.size w wr) ∧ Tab tabT 46 w.heap.size 256 k wr) (fun i _ => 256 - (intOf i).toNat)
  case atStart => exact ⟨0, by omega, rfl, HB0, H0⟩
  case round =>
    obtain ⟨k, hk, rfl, HB, HT⟩ := hrel
    clear H0 HB0
    by_cases hlt : k < 256
    · have hlb : decide ((k : Int) < 256) = true := by simp; omega
      go_wp2_with fail
      obtain ⟨wo, rfl⟩ : ∃ wo : World, wo = wr := ⟨_, rfl⟩
      go_loopw [3, 11] (fun r i wq => ∃ m : Nat, m ≤ 8 ∧ i = .int .i64 m ∧ r = .int .u32 (iterI m (k : Int)) ∧ Aside0 (Below w.heap.size w wq) ∧ Tab tabT 46 w.heap.size 256 k wq) (fun _ i _ => 8 - (intOf i).toNat)
      case atStart => exact ⟨0, by omega, rfl, rfl, HB, HT⟩
      case round =>
        obtain ⟨m, hm, rfl, rfl, HB, HT⟩ := hrel
        by_cases hlm : m < 8
        · go_wp2_with (go_at_call 20; refine (crc_step.calls _ (stepI (iterI m (k : Int))) _ (stepI_eq _)).mono ?_; rintro e w' ⟨rfl, ⟨nd, rfl⟩⟩)
          go_roundw
          case rel =>
            exact ⟨m + 1, by omega, by go_num, rfl, ⟨pw_below_drewN HB.out nd⟩, HT.drewN nd⟩
          case measure => simp [intOf]; omega
        · obtain rfl : m = 8 := by omega
          obtain ⟨x0, hx0⟩ := HT.cell k hlt
          have hf0 := HT.free k
          have HS := HT.store hlt
          go_wp2_with fail
          go_roundw
          case rel => exact ⟨k + 1, by omega, by go_num, ⟨HB.out.setCell (Nat.le_refl _) _⟩, HS⟩
          case measure => simp [intOf]; omega
    · go_wp2_with fail
      go_ret
      obtain rfl : k = 256 := by omega
      exact ⟨rfl, HB.out, HT⟩


/-! ### crc_More: function 14 -/
def moreStep (r x : Int) : Int := Go.bits .xor .u32 (r / 256) (tabT (Go.bits .xor .u8 (r % 256) x).toNat)
def crc_More.f (a0 : Int) (l1 : List Int) : Option Int := some (Go.bits .xor .u32 IntKind.u32.max (l1.foldl moreStep (Go.bits .xor .u32 IntKind.u32.max a0)))
theorem foldl_take (f : Int → Int → Int) (a : Int) (l : List Int) (k : Nat) (h : k < l.length) : (l.take (k + 1)).foldl f a = f ((l.take k).foldl f a) (rd l (k : Int)) := by
  rw [List.take_succ_eq_append_getElem h, List.foldl_append]
  simp [rd, List.getD_eq_getElem?_getD, List.getElem?_eq_getElem h]
theorem u8_range (a b : Int) : 0 ≤ Go.bits .xor .u8 a b ∧ Go.bits .xor .u8 a b < 256 := by
  unfold Go.bits
  split <;> (rw [IntKind.wrap_u8]; omega)
set_option maxHeartbeats 1000000 in
set_option maxRecDepth 100000 in
theorem crc_More.calls (a0 : Int) (A1 : Option Addr) (c1 : Nat) (l1 : List Int) (r : Int) (w : World) (hr1 : Kd.C (Kd.int .u8) w A1 l1.length l1) (hc1 : l1.length ≤ c1) (h : crc_More.f a0 l1 = some r) :
    Calls Try.prog 14 #[.int .u32 a0, .slice A1 l1.length c1] w fun e w' => e = .returned (.int .u32 r) ∧ Below w.heap.size w w' := by
  have HR1 := Aside0.mk hr1
  have HL := hr1.2.1
  clear hr1 hc1
  have h' : Go.bits .xor .u32 IntKind.u32.max (l1.foldl moreStep (Go.bits .xor .u32 IntKind.u32.max a0)) = r := Option.some.inj h
  have H := Aside0.mk h'
  clear h h'
  go_enter Try.func14, Try.ntmps14
  go_wp2_with (go_at_call 19; refine (crc_rows.calls _).mono ?_; rintro e w1 ⟨rfl, hb, HT⟩)
  go_loopw [6, 14] (fun r i wr => ∃ k : Nat, k ≤ l1.length ∧ i = .int .i64 k ∧ r = .int .u32 ((l1.take k).foldl moreStep (Go.bits .xor .u32 IntKind.u32.max a0)) ∧ Aside0 (Below w.heap.size w wr) ∧ Tab tabT 46 w.heap.size 256 256 wr) (fun _ i _ => l1.length - (intOf i).toNat)
  case atStart => exact ⟨0, by omega, rfl, rfl, ⟨hb⟩, HT⟩
  case round =>
    obtain ⟨k, hk, rfl, rfl, HB, HT⟩ := hrel
    clear hb
    by_cases hlt : k < l1.length
    · have hlb : decide ((k : Int) < (l1.length : Int)) = true := by simp; omega
      obtain ⟨ad, rfl, hx⟩ := Kd.at_int HR1.out (k : Int) (by omega) (by omega)
      replace hx := (HB.out.cell (World.block_lt_of_cell? w _ hx)).trans hx
      rw [Int.toNat_natCast] at hx
      have HF := Aside0.mk (foldl_take moreStep (Go.bits .xor .u32 IntKind.u32.max a0) l1 k hlt)
      generalize (l1.take k).foldl moreStep (Go.bits .xor .u32 IntKind.u32.max a0) = s at *
      obtain ⟨hq0, hq1⟩ := u8_range (s % 256) (rd l1 (k : Int))
      have HQ : Aside0 (moreStep s (rd l1 (k : Int)) = Go.bits .xor .u32 (s / 256) (tabT (Go.bits .xor .u8 (s % 256) (rd l1 (k : Int))).toNat)) := Aside0.mk rfl
      obtain ⟨q, hq⟩ := Int.eq_ofNat_of_zero_le hq0
      rw [hq] at HQ hq1
      clear hq0
      have hc := HT.at_ q (by omega)
      go_wp2_with fail
      go_roundw
      case rel => exact ⟨k + 1, by omega, by go_num, by rw [HF.out, HQ.out]; rfl, HB, HT⟩
      case measure => simp [intOf]; omega
    · go_wp2_with fail
      go_ret
      obtain rfl : k = l1.length := by omega
      exact ⟨congrArg (fun z => Ending.returned (.int .u32 z)) (by rw [List.take_length]; exact H.out), HB.out⟩


/-! ### crc_Sum: function 12 -/
def crc_Sum.f (l0 : List Int) : Option (Int) := (crc_More.f 0 l0).bind fun t101 => (some t101)
set_option maxHeartbeats 8000000 in
set_option maxRecDepth 100000 in
theorem crc_Sum.calls (A0 : Option Addr) (c0 : Nat) (l0 : List Int) (r : Int) (w : World) (hr0 : Kd.C (Kd.int .u8) w A0 l0.length l0) (hc0 : l0.length ≤ c0) (h : crc_Sum.f l0 = some r) :
    Calls Try.prog 12 #[.slice A0 l0.length c0] w fun e w' => e = .returned (.int .u32 r) ∧ Below w.heap.size w w' := by
  have HR0 := Aside0.mk hr0
  have HC0 := Aside0.mk hc0
  clear hr0 hc0
  have HB := Aside0.mk (Below.refl w.heap.size w)
  have H : ((crc_More.f 0 l0).bind fun t101 => (some t101)) = some r := h
  clear h
  replace H := Option.bind_eq_some_iff.mp H
  obtain ⟨t101, A20, H⟩ := H
  replace H : (some t101) = some r := H
  have A2 := Aside0.mk A20
  clear A20
  obtain rfl := Option.some.inj H
  go_enter Try.func12, Try.ntmps12
  go_wp2_with (first | ((with_reducible refine gate_callee (f := 14) rfl ?_); refine goesL_ (some 4) rfl rfl Try.func14 (by kernel_rfl) rfl #[.int .u32 0, .slice A0 l0.length c0] rfl (by (try simp only [List.map_toArray, List.map_cons, List.map_nil]); first | done | rfl | (simp only [List.length_drop, List.length_take]; rfl)) ?_; (with_reducible refine (crc_More.calls 0 _ _ l0 t101 _ ?side1 ?side2 A2.out).mono ?_); (case side1 => repeat (first | exact HR0.out | (with_reducible refine Kd.C_alloc ?_ _) | (with_reducible refine Kd.C_drewN ?_ _) | (with_reducible refine Kd.C_drew ?_))); (case side2 => exact HC0.out); rintro e w3 ⟨rfl, hb⟩; refine ⟨_, rfl, ?_⟩; have n0_ := Aside0.mk (below_step (by repeat (first | (with_reducible first | exact HB.out | apply below_alloc | apply pw_below_drewN | apply below_drew1) | exact HB.out)) hb); clear HB; have HB := n0_; clear n0_; (try clear hb); (try clear hb2); (try clear hk); (try clear hi)))
  go_ret
  exact ⟨by first | rfl | (simp [errW_none, errW_some] <;> rfl) | (simp [*, errW_none, errW_some] <;> rfl), by repeat (first | (with_reducible first | exact HB.out | apply below_alloc | apply pw_below_drewN | apply below_drew1) | exact HB.out)⟩

/-! ### stowagelaw02_awake: function 11 -/
def nine : List Int := [49, 50, 51, 52, 53, 54, 55, 56, 57]
def nineC : Array Value := #[.int .u8 49, .int .u8 50, .int .u8 51, .int .u8 52, .int .u8 53, .int .u8 54, .int .u8 55, .int .u8 56, .int .u8 57]
theorem nine_at : ∀ j, j < 9 → nineC[j]? = some (.int .u8 (nine.getD j 0)) := by
  intro j hj
  have : j = 0 ∨ j = 1 ∨ j = 2 ∨ j = 3 ∨ j = 4 ∨ j = 5 ∨ j = 6 ∨ j = 7 ∨ j = 8 := by omega
  rcases this with rfl | rfl | rfl | rfl | rfl | rfl | rfl | rfl | rfl <;> rfl
theorem nine_reads (w W : World) (t : TypeId) (fr : Nat × Nat) (b : Nat) (h : W.heap[b]? = some (.cells nineC t fr)) : Kd.C (Kd.int .u8) W (some ⟨b, 0, none⟩) nine.length nine := by
  refine Kd.C_of_reads (d := (0 : Int)) (h1 := fun _ => rfl) ⟨rfl, by decide, fun _ => ⟨_, rfl, fun j hj => ?_⟩⟩
  rw [add_plain]
  simp only [World.cell?, h]
  exact nine_at j hj
theorem none_reads (W : World) : Kd.C (Kd.int .u8) W none ([] : List Int).length [] :=
  Kd.C_of_reads (d := (0 : Int)) (h1 := fun _ => rfl) ⟨rfl, by decide, fun h => absurd h (by decide)⟩
def stowagelaw02_awake.f : Option (Bool) := (crc_Sum.f nine).bind fun t105 => (if t105 = 3421780262 then ((crc_Sum.f ([] : List Int)).bind fun t106 => (some (t106 == 0))) else (some false))
set_option maxHeartbeats 1000000 in
set_option maxRecDepth 100000 in
theorem stowagelaw02_awake.calls (r : Bool) (w : World) (h : stowagelaw02_awake.f = some r) :
    Calls Try.prog 11 #[] w fun e w' => e = .returned (.bool r) ∧ Below w.heap.size w w' := by
  unfold stowagelaw02_awake.f at h
  obtain ⟨s1, h1, h2⟩ := Option.bind_eq_some_iff.1 h
  have H1 := Aside0.mk h1
  clear h h1
  have kc := fun (w : World) (C : Array Value) (n c : Nat) => Lib.run_convert_bytes_const (P := Try.prog) w 23 5 C n c Try.underlying23 Try.underlying5
  have HC := Aside0.mk (nine_reads w (w.alloc (.cells nineC 5 (9, 10))) 5 (9, 10) w.heap.size (heap_alloc_new w _))
  have hsz : (w.alloc (.cells nineC 5 (9, 10))).heap.size = w.heap.size + 1 := by simp
  by_cases c : s1 = 3421780262
  · rw [if_pos c] at h2
    obtain ⟨s2, h3, h4⟩ := Option.bind_eq_some_iff.1 h2
    have H3 := Aside0.mk h3
    obtain rfl := Option.some.inj h4
    have cb : (s1 == 3421780262) = true := beq_iff_eq.mpr c
    clear h2 h3 h4 c
    go_enter Try.func11, Try.ntmps11
    go_wp2_with fail
    refine (crc_Sum.calls (some ⟨w.heap.size, 0, none⟩) 9 nine s1 (w.alloc (.cells nineC 5 (9, 10))) HC.out (by decide) H1.out).mono ?_
    rintro e w1 ⟨rfl, hb1⟩
    go_wp2_with fail
    refine (crc_Sum.calls none 0 [] s2 _ (none_reads _) (by decide) H3.out).mono ?_
    rintro e w2 ⟨rfl, hb2⟩
    go_wp2_with fail
    go_ret
    exact ⟨rfl, below_then (below_then (below_alloc (Below.refl _ _) _) (by simp) hb1) (by have := hb1.size; simp at this; omega) hb2⟩
  · rw [if_neg c] at h2
    obtain rfl := Option.some.inj h2
    have cb : (s1 == 3421780262) = false := beq_eq_false_iff_ne.mpr c
    clear h2 c
    go_enter Try.func11, Try.ntmps11
    go_wp2_with fail
    refine (crc_Sum.calls (some ⟨w.heap.size, 0, none⟩) 9 nine s1 (w.alloc (.cells nineC 5 (9, 10))) HC.out (by decide) H1.out).mono ?_
    rintro e w1 ⟨rfl, hb1⟩
    go_wp2_with fail
    go_ret
    exact ⟨rfl, below_then (below_alloc (Below.refl _ _) _) (by simp) hb1⟩

/-! ### crc_matrix_times: function 21 -/
theorem built42 : Try.prog.built 42 [] = some (zArr .u32 32) := by kernel_rfl
def andOne (r : Int) : Bool := Go.bits .and .u32 r 1 == 1
def tI (M : Nat → Int) : Nat → Nat → Int → Int → Int
  | 0, _, _, out => out
  | d + 1, i, r, out => if r = 0 then out else tI M d (i + 1) (r / 2) (if Go.bits .and .u32 r 1 = 1 then Go.bits .xor .u32 out (M i) else out)
theorem tI_zero (M : Nat → Int) (d i : Nat) (out : Int) : tI M d i 0 out = out := by cases d <;> simp [tI]
set_option maxHeartbeats 1000000 in
set_option maxRecDepth 100000 in
theorem matrix_times.calls (M : Nat → Int) (g : Nat) (r : Int) (w : World) (hM : Tab M 42 g 32 32 w) (h0 : 0 ≤ r) (h1 : r < 4294967296) :
    Calls Try.prog 21 #[.pointer (some ⟨g, 0, none⟩), .int .u32 r] w fun e w' => e = .returned (.int .u32 (tI M 32 0 r 0)) ∧ Drawn0 w w' := by
  go_enter Try.func21, Try.ntmps21
  go_wp2_with fail
  go_loopw [1, 5, 6] (fun q s i wr => ∃ (k d : Nat) (ρ σ : Int), k + d = 32 ∧ i = .int .i64 k ∧ q = .int .u32 ρ ∧ s = .int .u32 σ ∧ 0 ≤ ρ ∧ ρ < 2 ^ d ∧ Aside0 (tI M d k ρ σ = tI M 32 0 r 0) ∧ Aside0 (Drawn0 w wr)) (fun q _ i _ => 32 - (intOf i).toNat)
  case atStart => exact ⟨0, 32, r, 0, rfl, rfl, rfl, rfl, h0, h1, ⟨rfl⟩, ⟨Drawn0.refl _⟩⟩
  case round =>
    obtain ⟨k, d, ρ, σ, hkd, rfl, rfl, rfl, hρ0, hρ1, HE, HD⟩ := hrel
    by_cases hz : ρ = 0
    · subst hz
      have HE' := HE.out
      rw [tI_zero] at HE'
      go_wp2_with fail
      go_ret
      exact ⟨congrArg (fun z => Ending.returned (.int .u32 z)) HE', HD.out⟩
    · have hzb : (ρ != 0) = true := by simpa using hz
      obtain ⟨d, rfl⟩ : ∃ d', d = d' + 1 := ⟨d - 1, by
        rcases d with _ | d
        · simp at hρ1; omega
        · rfl⟩
      have hk : k < 32 := by omega
      have HE' : tI M (d + 1) k ρ σ = tI M d (k + 1) (ρ / 2) (if Go.bits .and .u32 ρ 1 = 1 then Go.bits .xor .u32 σ (M k) else σ) := by simp only [tI]; rw [if_neg hz]
      have hρ2 : ρ / 2 < 2 ^ d := by rw [Int.pow_succ] at hρ1; omega
      have hc : wr.cell? ⟨g, k, none⟩ = some (.int .u32 (M k)) := by
        obtain ⟨nn, hn⟩ := HD.out.out
        rw [hn]
        exact (hM.drewN nn).at_ k hk
      clear hρ1
      by_cases hb : Go.bits .and .u32 ρ 1 = 1
      · rw [if_pos hb] at HE'
        have HX := Aside0.mk (HE'.symm.trans HE.out)
        have hbb : (Go.bits .and .u32 ρ 1 == 1) = true := beq_iff_eq.mpr hb
        clear HE HE' hb
        have H2 := Aside0.mk hρ2
        clear hρ2
        go_wp2_with fail
        go_roundw
        case rel => exact ⟨k + 1, d, _, _, by omega, by go_num, rfl, rfl, by omega, H2.out, HX, HD⟩
        case measure => simp [intOf]; omega
      · rw [if_neg hb] at HE'
        have HX := Aside0.mk (HE'.symm.trans HE.out)
        have hbb : (Go.bits .and .u32 ρ 1 == 1) = false := beq_eq_false_iff_ne.mpr hb
        clear HE HE' hb
        have H2 := Aside0.mk hρ2
        clear hρ2
        go_wp2_with fail
        go_roundw
        case rel => exact ⟨k + 1, d, _, _, by omega, by go_num, rfl, rfl, by omega, H2.out, HX, HD⟩
        case measure => simp [intOf]; omega


/-! ### crc_matrix_twice: function 22 -/
def U32 (M : Nat → Int) : Prop := ∀ j, j < 32 → 0 ≤ M j ∧ M j < 4294967296
def twI (M : Nat → Int) (j : Nat) : Int := tI M 32 0 (M j) 0
set_option maxHeartbeats 1000000 in
set_option maxRecDepth 100000 in
theorem matrix_twice.calls (M : Nat → Int) (g : Nat) (w : World) (hM : Tab M 42 g 32 32 w) (hU : U32 M) :
    Calls Try.prog 22 #[.pointer (some ⟨g, 0, none⟩)] w fun e w' => e = .returned (.pointer (some ⟨w.heap.size, 0, none⟩)) ∧ Below w.heap.size w w' ∧ Tab (twI M) 42 w.heap.size 32 32 w' := by
  have H0 := Tab.start (twI M) 42 32 w
  have HB0 := Aside0.mk ((Below.refl w.heap.size w).alloc (Nat.le_refl _) (.cells (zArr .u32 32) 42))
  have hU' := Aside0.mk hU
  clear hU
  go_enter Try.func22, Try.ntmps22
  go_wp2_with (first | ((with_reducible refine gate_dst (N := 5) rfl ?_); refine wpList_build 42 rfl rfl (zArr .u32 32) built42 ?_) | ((with_reducible refine gate_dst (N := 6) rfl ?_); refine wpList_box 42 (.tmp 5) (zArr .u32 32) rfl rfl rfl ?_))
  go_loopw [7] (fun i wr => ∃ k : Nat, k ≤ 32 ∧ i = .int .i64 k ∧ Aside0 (Below w.heap.size w wr) ∧ Tab (twI M) 42 w.heap.size 32 k wr) (fun i _ => 32 - (intOf i).toNat)
  case atStart => exact ⟨0, by omega, rfl, HB0, H0⟩
  case round =>
    obtain ⟨k, hk, rfl, HB, HT⟩ := hrel
    clear H0 HB0
    by_cases hlt : k < 32
    · have hlb : decide ((k : Int) < 32) = true := by simp; omega
      have hg : g < w.heap.size := hM.lt
      have hMr : Tab M 42 g 32 32 wr := hM.below HB.out hg
      have hcm := hMr.at_ k hlt
      obtain ⟨hm0, hm1⟩ := hU'.out k hlt
      obtain ⟨x0, hx0⟩ := HT.cell k hlt
      have hf0 := HT.free k
      have hne : g ≠ w.heap.size := by omega
      go_wp2_with fail
      go_region_with (go_at_call 21; refine (matrix_times.calls M g (M k) _ (by first | exact hMr | exact hMr.drewN _) hm0 hm1).mono ?_; rintro e w' ⟨rfl, ⟨nd, rfl⟩⟩)
      all_goals
        go_wp2_with fail
        go_roundw
        case rel => exact ⟨k + 1, by omega, by go_num, ⟨(pw_below_drewN HB.out (1 + nd)).setCell (Nat.le_refl _) _⟩, (HT.drewN (1 + nd)).store hlt⟩
        case measure => simp [intOf]; omega
    · go_wp2_with fail
      go_ret
      obtain rfl : k = 32 := by omega
      exact ⟨rfl, HB.out, HT⟩


/-! ### crc_Zeros: function 16 -/
theorem u32_range (op : BinOp) (a b : Int) : 0 ≤ Go.bits op .u32 a b ∧ Go.bits op .u32 a b < 4294967296 := by
  unfold Go.bits
  split <;> (rw [IntKind.wrap_u32]; omega)
theorem stepI_range (r : Int) (h0 : 0 ≤ r) (h1 : r < 4294967296) : 0 ≤ stepI r ∧ stepI r < 4294967296 := by
  unfold stepI
  split
  · exact u32_range _ _ _
  · omega
theorem iterI_range (r : Int) (h0 : 0 ≤ r) (h1 : r < 4294967296) : ∀ n, 0 ≤ iterI n r ∧ iterI n r < 4294967296
  | 0 => ⟨h0, h1⟩
  | n + 1 => stepI_range _ (iterI_range r h0 h1 n).1 (iterI_range r h0 h1 n).2
theorem tI_range (M : Nat → Int) : ∀ (d i : Nat) (r out : Int), 0 ≤ out → out < 4294967296 → 0 ≤ tI M d i r out ∧ tI M d i r out < 4294967296
  | 0, _, _, out, h0, h1 => ⟨h0, h1⟩
  | d + 1, i, r, out, h0, h1 => by
    simp only [tI]
    split
    · exact ⟨h0, h1⟩
    · split
      · exact tI_range M d _ _ _ (u32_range _ _ _).1 (u32_range _ _ _).2
      · exact tI_range M d _ _ _ h0 h1
theorem twI_U32 (M : Nat → Int) : U32 (twI M) := fun j _ => tI_range M 32 0 (M j) 0 (by omega) (by omega)
def m0 (j : Nat) : Int := iterI 8 (2 ^ j % 4294967296)
theorem m0_U32 : U32 m0 := fun j _ => iterI_range _ (by omega) (by omega) 8
def zI : Nat → Int → (Nat → Int) → Int → Int
  | 0, _, _, r => r
  | d + 1, n, M, r => if n > 0 then zI d (n / 2) (twI M) (if Go.bits .and .i64 n 1 = 1 then tI M 32 0 r 0 else r) else r
theorem zI_done (d : Nat) (n : Int) (M : Nat → Int) (r : Int) (h : ¬ n > 0) : zI d n M r = r := by cases d <;> simp [zI, h]
def crc_Zeros.f (a0 a1 : Int) : Option Int := some (Go.bits .xor .u32 IntKind.u32.max (zI a1.toNat a1 m0 (Go.bits .xor .u32 IntKind.u32.max a0)))
set_option maxHeartbeats 2000000 in
set_option maxRecDepth 100000 in
theorem crc_Zeros.calls (a0 a1 : Int) (r : Int) (w : World) (h : crc_Zeros.f a0 a1 = some r) :
    Calls Try.prog 16 #[.int .u32 a0, .int .i64 a1] w fun e w' => e = .returned (.int .u32 r) ∧ Below w.heap.size w w' := by
  have h' : Go.bits .xor .u32 IntKind.u32.max (zI a1.toNat a1 m0 (Go.bits .xor .u32 IntKind.u32.max a0)) = r := Option.some.inj h
  have H := Aside0.mk h'
  clear h h'
  have H0 := Tab.start m0 42 32 w
  have HB0 := Aside0.mk ((Below.refl w.heap.size w).alloc (Nat.le_refl _) (.cells (zArr .u32 32) 42))
  go_enter Try.func16, Try.ntmps16
  go_wp2_with (first | ((with_reducible refine gate_dst (N := 9) rfl ?_); refine wpList_build 42 rfl rfl (zArr .u32 32) built42 ?_) | ((with_reducible refine gate_dst (N := 10) rfl ?_); refine wpList_box 42 (.tmp 9) (zArr .u32 32) rfl rfl rfl ?_))
  go_loopw [11] (fun i wr => ∃ k : Nat, k ≤ 32 ∧ i = .int .i64 k ∧ Aside0 (Below w.heap.size w wr) ∧ Tab m0 42 w.heap.size 32 k wr) (fun i _ => 32 - (intOf i).toNat)
  case atStart => exact ⟨0, by omega, rfl, HB0, H0⟩
  case round =>
    obtain ⟨k, hk, rfl, HB, HT⟩ := hrel
    clear H0 HB0
    by_cases hlt : k < 32
    · have hlb : decide ((k : Int) < 32) = true := by simp; omega
      go_wp2_with fail
      obtain ⟨wo, rfl⟩ : ∃ wo : World, wo = wr := ⟨_, rfl⟩
      go_loopw [7, 16] (fun r i wq => ∃ m : Nat, m ≤ 8 ∧ i = .int .i64 m ∧ r = .int .u32 (iterI m (2 ^ k % 4294967296)) ∧ Aside0 (Below w.heap.size w wq) ∧ Tab m0 42 w.heap.size 32 k wq) (fun _ i _ => 8 - (intOf i).toNat)
      case atStart => exact ⟨0, by omega, rfl, rfl, HB, HT⟩
      case round =>
        obtain ⟨m, hm, rfl, rfl, HB, HT⟩ := hrel
        by_cases hlm : m < 8
        · go_wp2_with (go_at_call 20; refine (crc_step.calls _ (stepI (iterI m (2 ^ k % 4294967296))) _ (stepI_eq _)).mono ?_; rintro e w' ⟨rfl, ⟨nd, rfl⟩⟩)
          go_roundw
          case rel => exact ⟨m + 1, by omega, by go_num, rfl, ⟨pw_below_drewN HB.out nd⟩, HT.drewN nd⟩
          case measure => simp [intOf]; omega
        · obtain rfl : m = 8 := by omega
          obtain ⟨x0, hx0⟩ := HT.cell k hlt
          have hf0 := HT.free k
          have HS := HT.store hlt
          go_wp2_with fail
          go_roundw
          case rel => exact ⟨k + 1, by omega, by go_num, ⟨HB.out.setCell (Nat.le_refl _) _⟩, HS⟩
          case measure => simp [intOf]; omega
    · have hlb : decide ((k : Int) < 32) = false := by simp; omega
      obtain rfl : k = 32 := by omega
      go_wp2_with fail
      obtain ⟨wo, rfl⟩ : ∃ wo : World, wo = wr := ⟨_, rfl⟩
      have hR := u32_range .xor IntKind.u32.max a0
      generalize Go.bits .xor .u32 IntKind.u32.max a0 = ρ0 at *
      go_loopw [1, 5, 8] (fun n p r wq => ∃ (d : Nat) (ν : Int) (M : Nat → Int) (g : Nat) (ρ : Int), n = .int .i64 ν ∧ p = .pointer (some ⟨g, 0, none⟩) ∧ r = .int .u32 ρ ∧ ν.toNat < 2 ^ d ∧ Aside0 (zI d ν M ρ = zI a1.toNat a1 m0 ρ0) ∧ 0 ≤ ρ ∧ ρ < 4294967296 ∧ Aside0 (U32 M) ∧ Aside0 (Below w.heap.size w wq) ∧ Tab M 42 g 32 32 wq) (fun n _ _ _ => (intOf n).toNat)
      case atStart => exact ⟨a1.toNat, a1, m0, w.heap.size, ρ0, rfl, rfl, rfl, Nat.lt_two_pow_self, ⟨rfl⟩, hR.1, hR.2, ⟨m0_U32⟩, HB, HT⟩
      case round =>
        obtain ⟨d, ν, M, g, ρ, rfl, rfl, rfl, hd, HZ, hρ0, hρ1, HU, HB, HT⟩ := hrel
        by_cases hn : ν > 0
        · obtain ⟨d, rfl⟩ : ∃ d', d = d' + 1 := ⟨d - 1, by
            rcases d with _ | d
            · simp at hd; omega
            · rfl⟩
          have hd2 : Aside0 ((ν / 2).toNat < 2 ^ d) := ⟨by rw [Nat.pow_succ] at hd; omega⟩
          have HE : zI (d + 1) ν M ρ = zI d (ν / 2) (twI M) (if Go.bits .and .i64 ν 1 = 1 then tI M 32 0 ρ 0 else ρ) := by simp only [zI]; rw [if_pos hn]
          have hM2 : Aside0 (U32 (twI M)) := ⟨twI_U32 M⟩
          have hgl := HT.lt
          clear hd
          by_cases hb : Go.bits .and .i64 ν 1 = 1
          · rw [if_pos hb] at HE
            have HX := Aside0.mk (HE.symm.trans HZ.out)
            have hbb : (Go.bits .and .i64 ν 1 == 1) = true := beq_iff_eq.mpr hb
            clear HE HZ hb
            obtain ⟨hτ0, hτ1⟩ := tI_range M 32 0 ρ 0 (by omega) (by omega)
            go_wp2_with (first | (go_at_call 21; refine (matrix_times.calls M g ρ _ HT hρ0 hρ1).mono ?_; rintro e w' ⟨rfl, ⟨nd, rfl⟩⟩) | (go_at_call 22; refine (matrix_twice.calls M g _ (by first | exact HT | exact HT.drewN _) HU.out).mono ?_; rintro e w5 ⟨rfl, hb5, HT5⟩))
            go_roundw
            case rel => exact ⟨d, ν / 2, twI M, wr.heap.size, _, rfl, rfl, rfl, hd2.out, HX, hτ0, hτ1, hM2, ⟨below_then (pw_below_drewN HB.out nd) HB.out.size hb5⟩, HT5⟩
            case measure => simp [intOf]; omega
          · rw [if_neg hb] at HE
            have HX := Aside0.mk (HE.symm.trans HZ.out)
            have hbb : (Go.bits .and .i64 ν 1 == 1) = false := beq_eq_false_iff_ne.mpr hb
            clear HE HZ hb
            go_wp2_with (first | (go_at_call 22; refine (matrix_twice.calls M g _ (by first | exact HT | exact HT.drewN _) HU.out).mono ?_; rintro e w5 ⟨rfl, hb5, HT5⟩))
            go_roundw
            case rel => exact ⟨d, ν / 2, twI M, wr.heap.size, _, rfl, rfl, rfl, hd2.out, HX, hρ0, hρ1, hM2, ⟨below_then HB.out HB.out.size hb5⟩, HT5⟩
            case measure => simp [intOf]; omega
        · have HZ' := HZ.out
          rw [zI_done _ _ _ _ hn] at HZ'
          have H2 : Aside0 (Go.bits .xor .u32 IntKind.u32.max ρ = r) := ⟨by rw [HZ']; exact H.out⟩
          clear HZ' HZ
          go_wp2_with fail
          go_ret
          exact ⟨congrArg (fun z => Ending.returned (.int .u32 z)) H2.out, HB.out⟩

/-! ### crc_Join: function 18 -/
def crc_Join.f (a0 : Int) (a1 : Int) (a2 : Int) : Option (Int) := (crc_Zeros.f a0 a2).bind fun t102 => ((crc_Zeros.f 0 a2).bind fun t103 => (some (Go.bits .xor .u32 (Go.bits .xor .u32 t102 t103) a1)))
set_option maxHeartbeats 8000000 in
set_option maxRecDepth 100000 in
theorem crc_Join.calls (a0 : Int) (a1 : Int) (a2 : Int) (r : Int) (w : World) (h : crc_Join.f a0 a1 a2 = some r) :
    Calls Try.prog 18 #[.int .u32 a0, .int .u32 a1, .int .i64 a2] w fun e w' => e = .returned (.int .u32 r) ∧ Below w.heap.size w w' := by
  have HB := Aside0.mk (Below.refl w.heap.size w)
  have H : ((crc_Zeros.f a0 a2).bind fun t102 => ((crc_Zeros.f 0 a2).bind fun t103 => (some (Go.bits .xor .u32 (Go.bits .xor .u32 t102 t103) a1)))) = some r := h
  clear h
  replace H := Option.bind_eq_some_iff.mp H
  obtain ⟨t102, A40, H⟩ := H
  replace H : ((crc_Zeros.f 0 a2).bind fun t103 => (some (Go.bits .xor .u32 (Go.bits .xor .u32 t102 t103) a1))) = some r := H
  have A4 := Aside0.mk A40
  clear A40
  replace H := Option.bind_eq_some_iff.mp H
  obtain ⟨t103, A50, H⟩ := H
  replace H : (some (Go.bits .xor .u32 (Go.bits .xor .u32 t102 t103) a1)) = some r := H
  have A5 := Aside0.mk A50
  clear A50
  obtain rfl := Option.some.inj H
  go_enter Try.func18, Try.ntmps18
  go_wp2_with (first | ((with_reducible refine gate_callee (f := 16) rfl ?_); refine goesL_ (some 9) rfl rfl Try.func16 (by kernel_rfl) rfl #[.int .u32 a0, .int .i64 a2] rfl (by (try simp only [List.map_toArray, List.map_cons, List.map_nil]); first | done | rfl | (simp only [List.length_drop, List.length_take]; rfl)) ?_; (with_reducible refine (crc_Zeros.calls a0 a2 t102 _ A4.out).mono ?_); rintro e w6 ⟨rfl, hb⟩; refine ⟨_, rfl, ?_⟩; have n0_ := Aside0.mk (below_step (by repeat (first | (with_reducible first | exact HB.out | apply below_alloc | apply pw_below_drewN | apply below_drew1) | exact HB.out)) hb); clear HB; have HB := n0_; clear n0_; (try clear hb); (try clear hb2); (try clear hk); (try clear hi)) | ((with_reducible refine gate_callee (f := 16) rfl ?_); refine goesL_ (some 11) rfl rfl Try.func16 (by kernel_rfl) rfl #[.int .u32 0, .int .i64 a2] rfl (by (try simp only [List.map_toArray, List.map_cons, List.map_nil]); first | done | rfl | (simp only [List.length_drop, List.length_take]; rfl)) ?_; (with_reducible refine (crc_Zeros.calls 0 a2 t103 _ A5.out).mono ?_); rintro e w7 ⟨rfl, hb⟩; refine ⟨_, rfl, ?_⟩; have n0_ := Aside0.mk (below_step (by repeat (first | (with_reducible first | exact HB.out | apply below_alloc | apply pw_below_drewN | apply below_drew1) | exact HB.out)) hb); clear HB; have HB := n0_; clear n0_; (try clear hb); (try clear hb2); (try clear hk); (try clear hi)))
  go_ret
  exact ⟨by first | rfl | (simp [errW_none, errW_some] <;> rfl) | (simp [*, errW_none, errW_some] <;> rfl), by repeat (first | (with_reducible first | exact HB.out | apply below_alloc | apply pw_below_drewN | apply below_drew1) | exact HB.out)⟩

/-! ### stowagelaw02_CrcParts: function 9 -/
def stowagelaw02_CrcParts.f (l0 : List Int) (l1 : List Int) : Option (Bool) := (some (([] : List Int) : List Int)).bind fun y104 => (if y104.length + l0.length < 140737488355328 then ((some (y104 ++ l0 : List Int)).bind fun y107 => (if y107.length + l1.length < 140737488355328 then ((crc_Sum.f (y107 ++ l1)).bind fun t113 => ((stowagelaw02_awake.f).bind fun t114 => (if t114 = true then ((crc_Sum.f l0).bind fun t115 => ((crc_More.f t115 l1).bind fun t116 => (if t116 = t113 then ((crc_Sum.f l0).bind fun t117 => ((crc_Sum.f l1).bind fun t118 => ((crc_Join.f t117 t118 (l1.length : Int)).bind fun t119 => (some (t119 == t113))))) else (some false)))) else (some false)))) else (none))) else (none))
set_option maxHeartbeats 8000000 in
set_option maxRecDepth 100000 in
theorem stowagelaw02_CrcParts.calls (A0 : Option Addr) (c0 : Nat) (l0 : List Int) (A1 : Option Addr) (c1 : Nat) (l1 : List Int) (r : Bool) (w : World) (hr0 : Kd.C (Kd.int .u8) w A0 l0.length l0) (hc0 : l0.length ≤ c0) (hr1 : Kd.C (Kd.int .u8) w A1 l1.length l1) (hc1 : l1.length ≤ c1) (h : stowagelaw02_CrcParts.f l0 l1 = some r) :
    Calls Try.prog 9 #[.slice A0 l0.length c0, .slice A1 l1.length c1] w fun e w' => e = .returned (.bool r) ∧ Below w.heap.size w w' := by
  have HR0 := Aside0.mk hr0
  have HC0 := Aside0.mk hc0
  clear hr0 hc0
  have HR1 := Aside0.mk hr1
  have HC1 := Aside0.mk hc1
  clear hr1 hc1
  have HB := Aside0.mk (Below.refl w.heap.size w)
  have H : ((some (([] : List Int) : List Int)).bind fun y104 => (if y104.length + l0.length < 140737488355328 then ((some (y104 ++ l0 : List Int)).bind fun y107 => (if y107.length + l1.length < 140737488355328 then ((crc_Sum.f (y107 ++ l1)).bind fun t113 => ((stowagelaw02_awake.f).bind fun t114 => (if t114 = true then ((crc_Sum.f l0).bind fun t115 => ((crc_More.f t115 l1).bind fun t116 => (if t116 = t113 then ((crc_Sum.f l0).bind fun t117 => ((crc_Sum.f l1).bind fun t118 => ((crc_Join.f t117 t118 (l1.length : Int)).bind fun t119 => (some (t119 == t113))))) else (some false)))) else (some false)))) else (none))) else (none))) = some r := h
  clear h
  obtain ⟨y104, hy104⟩ : ∃ y_ : List Int, y_ = (([] : List Int)) := ⟨_, rfl⟩
  replace H : (if y104.length + l0.length < 140737488355328 then ((some (y104 ++ l0 : List Int)).bind fun y107 => (if y107.length + l1.length < 140737488355328 then ((crc_Sum.f (y107 ++ l1)).bind fun t113 => ((stowagelaw02_awake.f).bind fun t114 => (if t114 = true then ((crc_Sum.f l0).bind fun t115 => ((crc_More.f t115 l1).bind fun t116 => (if t116 = t113 then ((crc_Sum.f l0).bind fun t117 => ((crc_Sum.f l1).bind fun t118 => ((crc_Join.f t117 t118 (l1.length : Int)).bind fun t119 => (some (t119 == t113))))) else (some false)))) else (some false)))) else (none))) else (none)) = some r := by first | (rw [hy104]; with_reducible exact H) | (have H2_ := (Option.bind_some _ _).symm.trans H; rw [hy104]; with_reducible exact H2_) | (have H2_ := (Option.bind_some _ _).symm.trans H; with_reducible exact H2_) | with_reducible exact H | (rw [hy104]; exact H) | exact H
  have Ny104 := Aside0.mk hy104
  clear hy104
  by_cases c3 : y104.length + l0.length < 140737488355328
  · rw [if_pos c3] at H
    have LMc3 := Aside0.mk c3
    clear c3
    obtain ⟨y107, hy107⟩ : ∃ y_ : List Int, y_ = (y104 ++ l0) := ⟨_, rfl⟩
    replace H : (if y107.length + l1.length < 140737488355328 then ((crc_Sum.f (y107 ++ l1)).bind fun t113 => ((stowagelaw02_awake.f).bind fun t114 => (if t114 = true then ((crc_Sum.f l0).bind fun t115 => ((crc_More.f t115 l1).bind fun t116 => (if t116 = t113 then ((crc_Sum.f l0).bind fun t117 => ((crc_Sum.f l1).bind fun t118 => ((crc_Join.f t117 t118 (l1.length : Int)).bind fun t119 => (some (t119 == t113))))) else (some false)))) else (some false)))) else (none)) = some r := by first | (rw [hy107]; with_reducible exact H) | (have H2_ := (Option.bind_some _ _).symm.trans H; rw [hy107]; with_reducible exact H2_) | (have H2_ := (Option.bind_some _ _).symm.trans H; with_reducible exact H2_) | with_reducible exact H | (rw [hy107]; exact H) | exact H
    have Ny107 := Aside0.mk hy107
    clear hy107
    by_cases c4 : y107.length + l1.length < 140737488355328
    · rw [if_pos c4] at H
      have LMc4 := Aside0.mk c4
      clear c4
      obtain ⟨y110, hy110⟩ : ∃ y_ : List Int, y_ = (y107 ++ l1) := ⟨_, rfl⟩
      replace H : ((crc_Sum.f y110).bind fun t113 => ((stowagelaw02_awake.f).bind fun t114 => (if t114 = true then ((crc_Sum.f l0).bind fun t115 => ((crc_More.f t115 l1).bind fun t116 => (if t116 = t113 then ((crc_Sum.f l0).bind fun t117 => ((crc_Sum.f l1).bind fun t118 => ((crc_Join.f t117 t118 (l1.length : Int)).bind fun t119 => (some (t119 == t113))))) else (some false)))) else (some false)))) = some r := by first | (rw [hy110]; with_reducible exact H) | (have H2_ := (Option.bind_some _ _).symm.trans H; rw [hy110]; with_reducible exact H2_) | (have H2_ := (Option.bind_some _ _).symm.trans H; with_reducible exact H2_) | with_reducible exact H | (rw [hy110]; exact H) | exact H
      have Ny110 := Aside0.mk hy110
      clear hy110
      replace H := Option.bind_eq_some_iff.mp H
      obtain ⟨t113, A50, H⟩ := H
      replace H : ((stowagelaw02_awake.f).bind fun t114 => (if t114 = true then ((crc_Sum.f l0).bind fun t115 => ((crc_More.f t115 l1).bind fun t116 => (if t116 = t113 then ((crc_Sum.f l0).bind fun t117 => ((crc_Sum.f l1).bind fun t118 => ((crc_Join.f t117 t118 (l1.length : Int)).bind fun t119 => (some (t119 == t113))))) else (some false)))) else (some false))) = some r := H
      have A5 := Aside0.mk A50
      clear A50
      replace H := Option.bind_eq_some_iff.mp H
      obtain ⟨t114, A60, H⟩ := H
      replace H : (if t114 = true then ((crc_Sum.f l0).bind fun t115 => ((crc_More.f t115 l1).bind fun t116 => (if t116 = t113 then ((crc_Sum.f l0).bind fun t117 => ((crc_Sum.f l1).bind fun t118 => ((crc_Join.f t117 t118 (l1.length : Int)).bind fun t119 => (some (t119 == t113))))) else (some false)))) else (some false)) = some r := H
      have A6 := Aside0.mk A60
      clear A60
      by_cases c7 : t114 = true
      · subst c7
        have H1 : ((crc_Sum.f l0).bind fun t115 => ((crc_More.f t115 l1).bind fun t116 => (if t116 = t113 then ((crc_Sum.f l0).bind fun t117 => ((crc_Sum.f l1).bind fun t118 => ((crc_Join.f t117 t118 (l1.length : Int)).bind fun t119 => (some (t119 == t113))))) else (some false)))) = some r := by rw [if_pos rfl] at H; exact H
        clear H
        have H := H1
        clear H1
        replace H := Option.bind_eq_some_iff.mp H
        obtain ⟨t115, A80, H⟩ := H
        replace H : ((crc_More.f t115 l1).bind fun t116 => (if t116 = t113 then ((crc_Sum.f l0).bind fun t117 => ((crc_Sum.f l1).bind fun t118 => ((crc_Join.f t117 t118 (l1.length : Int)).bind fun t119 => (some (t119 == t113))))) else (some false))) = some r := H
        have A8 := Aside0.mk A80
        clear A80
        replace H := Option.bind_eq_some_iff.mp H
        obtain ⟨t116, A90, H⟩ := H
        replace H : (if t116 = t113 then ((crc_Sum.f l0).bind fun t117 => ((crc_Sum.f l1).bind fun t118 => ((crc_Join.f t117 t118 (l1.length : Int)).bind fun t119 => (some (t119 == t113))))) else (some false)) = some r := H
        have A9 := Aside0.mk A90
        clear A90
        by_cases c10 : t116 = t113
        · rw [if_pos c10] at H
          have c10b0 : (t116 == t113) = true := beq_iff_eq.mpr c10
          have c10b1 : (t116 != t113) = false := bne_eq_false_iff_eq.mpr c10
          clear c10
          replace H := Option.bind_eq_some_iff.mp H
          obtain ⟨t117, A110, H⟩ := H
          replace H : ((crc_Sum.f l1).bind fun t118 => ((crc_Join.f t117 t118 (l1.length : Int)).bind fun t119 => (some (t119 == t113)))) = some r := H
          have A11 := Aside0.mk A110
          clear A110
          replace H := Option.bind_eq_some_iff.mp H
          obtain ⟨t118, A120, H⟩ := H
          replace H : ((crc_Join.f t117 t118 (l1.length : Int)).bind fun t119 => (some (t119 == t113))) = some r := H
          have A12 := Aside0.mk A120
          clear A120
          replace H := Option.bind_eq_some_iff.mp H
          obtain ⟨t119, A130, H⟩ := H
          replace H : (some (t119 == t113)) = some r := H
          have A13 := Aside0.mk A130
          clear A130
          obtain rfl := Option.some.inj H
          have tok8 : True := trivial
          have tok11 : True := trivial
          go_enter Try.func9, Try.ntmps9
          go_wp2_with (first | ((with_reducible refine gate_dst (N := 6) rfl ?_); (try (refine gate_guard (by rfl) ?_; dsimp only)); refine Kd.R_lit (Kd.int .u8) _ 5 ?hg (N := 6) ?hd (xs := ([] : List Int)) (inner := []) (ok := fun _ => True) (okp := fun _ => True) ?hr ?hp (fun _ hk => hk) trivial (Below.refl _ _) (Nat.le_refl _) (by simp) ?_; (case hd => rfl); (case hg => rfl); (case hr => first | (go_simp; done) | (go_simp; rfl)); (case hp => exact (Reps.none _ _)); intro v105 w14 ho15 hb hg_ hnew_; clear hg_ hnew_; (first | rw [← Ny104.out] at ho15 | (simp only [Int.reduceToNat] at ho15; rw [← Ny104.out] at ho15)); have n0_ := Aside0.mk (Kd.R_lower ho15 (below_size (by repeat (first | (with_reducible first | exact HB.out | apply below_alloc | apply pw_below_drewN | apply below_drew1) | exact HB.out)))); have n1_ := Aside0.mk (below_step (by repeat (first | (with_reducible first | exact HB.out | apply below_alloc | apply pw_below_drewN | apply below_drew1) | exact HB.out)) hb); clear HB; have HO106 := n0_; have HB := n1_; clear n0_ n1_; clear hb ho15) | ((with_reducible refine gate_builtin (b := .append) (xs := #[.tmp 6, .tmp 7]) rfl ?_); (try (refine gate_guard (by rfl) ?_; dsimp only)); at_builtin; refine Kd.R_append_rows (Kd.int .u8) (w0 := w) w.heap.size rfl (.tmp 6) (.tmp 7) 23 5 (.int .u8 0) 1 rfl Try.underlying23 info5 rfl (by decide) (by omega) v105 y104 l0 _ _ _ (fun _ => True) (fun _ => False) rfl rfl ?aO ?aR (fun _ _ h => h) (fun _ h => h.elim) ?aF ?aB ?aS ?aL ?_; (case aR => repeat (first | exact (Kd.C_below HR0.out HB.out) | (with_reducible refine Kd.C_alloc ?_ _) | (with_reducible refine Kd.C_drewN ?_ _) | (with_reducible refine Kd.C_drew ?_))); (case aB => exact (by repeat (first | (with_reducible first | exact HB.out | apply below_alloc | apply pw_below_drewN | apply below_drew1) | exact HB.out))); (case aF => exact (fun _ _ => trivial)); (case aO => exact (by (with_reducible repeat (first | apply Kd.R_alloc | apply Kd.R_drewN | apply Kd.R_drew)); exact HO106.out)); (case aS => exact (below_size (by repeat (first | (with_reducible first | exact HB.out | apply below_alloc | apply pw_below_drewN | apply below_drew1) | exact HB.out)))); (case aL => have := LMc3.out; omega); intro v108 w16 ho hb hg hat; rw [← Ny107.out] at ho; have n0_ := Aside0.mk (hb); have n1_ := Aside0.mk (ho); clear HB; clear HO106; have HB := n0_; have HO109 := n1_; clear n0_ n1_; clear ho hb hg hat) | ((with_reducible refine gate_builtin (b := .append) (xs := #[.tmp 8, .tmp 9]) rfl ?_); (try (refine gate_guard (by rfl) ?_; dsimp only)); at_builtin; refine Kd.R_append_rows (Kd.int .u8) (w0 := w) w.heap.size rfl (.tmp 8) (.tmp 9) 23 5 (.int .u8 0) 1 rfl Try.underlying23 info5 rfl (by decide) (by omega) v108 y107 l1 _ _ _ (fun _ => True) (fun _ => False) rfl rfl ?aO ?aR (fun _ _ h => h) (fun _ h => h.elim) ?aF ?aB ?aS ?aL ?_; (case aR => repeat (first | exact (Kd.C_below HR1.out HB.out) | (with_reducible refine Kd.C_alloc ?_ _) | (with_reducible refine Kd.C_drewN ?_ _) | (with_reducible refine Kd.C_drew ?_))); (case aB => exact (by repeat (first | (with_reducible first | exact HB.out | apply below_alloc | apply pw_below_drewN | apply below_drew1) | exact HB.out))); (case aF => exact (fun _ _ => trivial)); (case aO => exact (by (with_reducible repeat (first | apply Kd.R_alloc | apply Kd.R_drewN | apply Kd.R_drew)); exact HO109.out)); (case aS => exact (below_size (by repeat (first | (with_reducible first | exact HB.out | apply below_alloc | apply pw_below_drewN | apply below_drew1) | exact HB.out)))); (case aL => have := LMc4.out; omega); intro v111 w17 ho hb hg hat; rw [← Ny110.out] at ho; have n0_ := Aside0.mk (hb); have n1_ := Aside0.mk (ho); clear HB; clear HO109; have HB := n0_; have HO112 := n1_; clear n0_ n1_; clear ho hb hg hat; obtain ⟨Ao18, co18, eo18⟩ := Kd.R_slice HO112.out; subst eo18) | ((with_reducible refine gate_callee (f := 12) rfl ?_); refine goesL_ (some 11) rfl rfl Try.func12 (by kernel_rfl) rfl #[.slice Ao18 y110.length co18] rfl (by (try simp only [List.map_toArray, List.map_cons, List.map_nil]); first | done | rfl | (simp only [List.length_drop, List.length_take]; rfl)) ?_; (with_reducible refine (crc_Sum.calls _ _ y110 t113 _ ?side1 ?side2 A5.out).mono ?_); (case side1 => repeat (first | exact (Kd.R_reads' HO112.out).2.2 | (with_reducible refine Kd.C_alloc ?_ _) | (with_reducible refine Kd.C_drewN ?_ _) | (with_reducible refine Kd.C_drew ?_))); (case side2 => exact (Kd.R_reads' HO112.out).2.1); rintro e w19 ⟨rfl, hb⟩; refine ⟨_, rfl, ?_⟩; have n0_ := Aside0.mk (Kd.R_below (by (with_reducible repeat (first | apply Kd.R_alloc | apply Kd.R_drewN | apply Kd.R_drew)); exact HO112.out) hb); have n1_ := Aside0.mk (below_step (by repeat (first | (with_reducible first | exact HB.out | apply below_alloc | apply pw_below_drewN | apply below_drew1) | exact HB.out)) hb); clear HO112; clear HB; have HO112 := n0_; have HB := n1_; clear n0_ n1_; (try clear hb); (try clear hb2); (try clear hk); (try clear hi)) | ((with_reducible refine gate_callee (f := 11) rfl ?_); refine goesL_ (some 12) rfl rfl Try.func11 (by kernel_rfl) rfl #[] rfl (by (try simp only [List.map_toArray, List.map_cons, List.map_nil]); first | done | rfl | (simp only [List.length_drop, List.length_take]; rfl)) ?_; (with_reducible refine (stowagelaw02_awake.calls  true _ A6.out).mono ?_); rintro e w20 ⟨rfl, hb⟩; refine ⟨_, rfl, ?_⟩; have n0_ := Aside0.mk (Kd.R_below (by (with_reducible repeat (first | apply Kd.R_alloc | apply Kd.R_drewN | apply Kd.R_drew)); exact HO112.out) hb); have n1_ := Aside0.mk (below_step (by repeat (first | (with_reducible first | exact HB.out | apply below_alloc | apply pw_below_drewN | apply below_drew1) | exact HB.out)) hb); clear HO112; clear HB; have HO112 := n0_; have HB := n1_; clear n0_ n1_; (try clear hb); (try clear hb2); (try clear hk); (try clear hi)) | (have _tk := tok8; go_at_call 12; (with_reducible refine (crc_Sum.calls _ _ l0 t115 _ ?side1 ?side2 A8.out).mono ?_); (case side1 => repeat (first | exact (Kd.C_below HR0.out HB.out) | (with_reducible refine Kd.C_alloc ?_ _) | (with_reducible refine Kd.C_drewN ?_ _) | (with_reducible refine Kd.C_drew ?_))); (case side2 => exact HC0.out); rintro e w21 ⟨rfl, hb⟩; have n0_ := Aside0.mk (Kd.R_below (by (with_reducible repeat (first | apply Kd.R_alloc | apply Kd.R_drewN | apply Kd.R_drew)); exact HO112.out) hb); have n1_ := Aside0.mk (below_step (by repeat (first | (with_reducible first | exact HB.out | apply below_alloc | apply pw_below_drewN | apply below_drew1) | exact HB.out)) hb); clear HO112; clear HB; have HO112 := n0_; have HB := n1_; clear n0_ n1_; (try clear hb); (try clear hb2); (try clear hk); (try clear hi); clear _tk tok8) | (go_at_call 14; (with_reducible refine (crc_More.calls t115 _ _ l1 t116 _ ?side1 ?side2 A9.out).mono ?_); (case side1 => repeat (first | exact (Kd.C_below HR1.out HB.out) | (with_reducible refine Kd.C_alloc ?_ _) | (with_reducible refine Kd.C_drewN ?_ _) | (with_reducible refine Kd.C_drew ?_))); (case side2 => exact HC1.out); rintro e w22 ⟨rfl, hb⟩; have n0_ := Aside0.mk (Kd.R_below (by (with_reducible repeat (first | apply Kd.R_alloc | apply Kd.R_drewN | apply Kd.R_drew)); exact HO112.out) hb); have n1_ := Aside0.mk (below_step (by repeat (first | (with_reducible first | exact HB.out | apply below_alloc | apply pw_below_drewN | apply below_drew1) | exact HB.out)) hb); clear HO112; clear HB; have HO112 := n0_; have HB := n1_; clear n0_ n1_; (try clear hb); (try clear hb2); (try clear hk); (try clear hi)) | (have _tk := tok11; go_at_call 12; (with_reducible refine (crc_Sum.calls _ _ l0 t117 _ ?side1 ?side2 A11.out).mono ?_); (case side1 => repeat (first | exact (Kd.C_below HR0.out HB.out) | (with_reducible refine Kd.C_alloc ?_ _) | (with_reducible refine Kd.C_drewN ?_ _) | (with_reducible refine Kd.C_drew ?_))); (case side2 => exact HC0.out); rintro e w23 ⟨rfl, hb⟩; have n0_ := Aside0.mk (Kd.R_below (by (with_reducible repeat (first | apply Kd.R_alloc | apply Kd.R_drewN | apply Kd.R_drew)); exact HO112.out) hb); have n1_ := Aside0.mk (below_step (by repeat (first | (with_reducible first | exact HB.out | apply below_alloc | apply pw_below_drewN | apply below_drew1) | exact HB.out)) hb); clear HO112; clear HB; have HO112 := n0_; have HB := n1_; clear n0_ n1_; (try clear hb); (try clear hb2); (try clear hk); (try clear hi); clear _tk tok11) | (go_at_call 12; (with_reducible refine (crc_Sum.calls _ _ l1 t118 _ ?side1 ?side2 A12.out).mono ?_); (case side1 => repeat (first | exact (Kd.C_below HR1.out HB.out) | (with_reducible refine Kd.C_alloc ?_ _) | (with_reducible refine Kd.C_drewN ?_ _) | (with_reducible refine Kd.C_drew ?_))); (case side2 => exact HC1.out); rintro e w24 ⟨rfl, hb⟩; have n0_ := Aside0.mk (Kd.R_below (by (with_reducible repeat (first | apply Kd.R_alloc | apply Kd.R_drewN | apply Kd.R_drew)); exact HO112.out) hb); have n1_ := Aside0.mk (below_step (by repeat (first | (with_reducible first | exact HB.out | apply below_alloc | apply pw_below_drewN | apply below_drew1) | exact HB.out)) hb); clear HO112; clear HB; have HO112 := n0_; have HB := n1_; clear n0_ n1_; (try clear hb); (try clear hb2); (try clear hk); (try clear hi)) | (go_at_call 18; (with_reducible refine (crc_Join.calls t117 t118 (l1.length : Int) t119 _ A13.out).mono ?_); rintro e w25 ⟨rfl, hb⟩; have n0_ := Aside0.mk (Kd.R_below (by (with_reducible repeat (first | apply Kd.R_alloc | apply Kd.R_drewN | apply Kd.R_drew)); exact HO112.out) hb); have n1_ := Aside0.mk (below_step (by repeat (first | (with_reducible first | exact HB.out | apply below_alloc | apply pw_below_drewN | apply below_drew1) | exact HB.out)) hb); clear HO112; clear HB; have HO112 := n0_; have HB := n1_; clear n0_ n1_; (try clear hb); (try clear hb2); (try clear hk); (try clear hi)))
          go_ret
          exact ⟨by first | rfl | (simp [errW_none, errW_some] <;> rfl) | (simp [*, errW_none, errW_some] <;> rfl), by repeat (first | (with_reducible first | exact HB.out | apply below_alloc | apply pw_below_drewN | apply below_drew1) | exact HB.out)⟩
        · rw [if_neg c10] at H
          have c10b0 : (t116 == t113) = false := beq_eq_false_iff_ne.mpr c10
          have c10b1 : (t116 != t113) = true := bne_iff_ne.mpr c10
          obtain rfl := Option.some.inj H
          go_enter Try.func9, Try.ntmps9
          go_wp2_with (first | ((with_reducible refine gate_dst (N := 6) rfl ?_); (try (refine gate_guard (by rfl) ?_; dsimp only)); refine Kd.R_lit (Kd.int .u8) _ 5 ?hg (N := 6) ?hd (xs := ([] : List Int)) (inner := []) (ok := fun _ => True) (okp := fun _ => True) ?hr ?hp (fun _ hk => hk) trivial (Below.refl _ _) (Nat.le_refl _) (by simp) ?_; (case hd => rfl); (case hg => rfl); (case hr => first | (go_simp; done) | (go_simp; rfl)); (case hp => exact (Reps.none _ _)); intro v105 w26 ho27 hb hg_ hnew_; clear hg_ hnew_; (first | rw [← Ny104.out] at ho27 | (simp only [Int.reduceToNat] at ho27; rw [← Ny104.out] at ho27)); have n0_ := Aside0.mk (Kd.R_lower ho27 (below_size (by repeat (first | (with_reducible first | exact HB.out | apply below_alloc | apply pw_below_drewN | apply below_drew1) | exact HB.out)))); have n1_ := Aside0.mk (below_step (by repeat (first | (with_reducible first | exact HB.out | apply below_alloc | apply pw_below_drewN | apply below_drew1) | exact HB.out)) hb); clear HB; have HO106 := n0_; have HB := n1_; clear n0_ n1_; clear hb ho27) | ((with_reducible refine gate_builtin (b := .append) (xs := #[.tmp 6, .tmp 7]) rfl ?_); (try (refine gate_guard (by rfl) ?_; dsimp only)); at_builtin; refine Kd.R_append_rows (Kd.int .u8) (w0 := w) w.heap.size rfl (.tmp 6) (.tmp 7) 23 5 (.int .u8 0) 1 rfl Try.underlying23 info5 rfl (by decide) (by omega) v105 y104 l0 _ _ _ (fun _ => True) (fun _ => False) rfl rfl ?aO ?aR (fun _ _ h => h) (fun _ h => h.elim) ?aF ?aB ?aS ?aL ?_; (case aR => repeat (first | exact (Kd.C_below HR0.out HB.out) | (with_reducible refine Kd.C_alloc ?_ _) | (with_reducible refine Kd.C_drewN ?_ _) | (with_reducible refine Kd.C_drew ?_))); (case aB => exact (by repeat (first | (with_reducible first | exact HB.out | apply below_alloc | apply pw_below_drewN | apply below_drew1) | exact HB.out))); (case aF => exact (fun _ _ => trivial)); (case aO => exact (by (with_reducible repeat (first | apply Kd.R_alloc | apply Kd.R_drewN | apply Kd.R_drew)); exact HO106.out)); (case aS => exact (below_size (by repeat (first | (with_reducible first | exact HB.out | apply below_alloc | apply pw_below_drewN | apply below_drew1) | exact HB.out)))); (case aL => have := LMc3.out; omega); intro v108 w28 ho hb hg hat; rw [← Ny107.out] at ho; have n0_ := Aside0.mk (hb); have n1_ := Aside0.mk (ho); clear HB; clear HO106; have HB := n0_; have HO109 := n1_; clear n0_ n1_; clear ho hb hg hat) | ((with_reducible refine gate_builtin (b := .append) (xs := #[.tmp 8, .tmp 9]) rfl ?_); (try (refine gate_guard (by rfl) ?_; dsimp only)); at_builtin; refine Kd.R_append_rows (Kd.int .u8) (w0 := w) w.heap.size rfl (.tmp 8) (.tmp 9) 23 5 (.int .u8 0) 1 rfl Try.underlying23 info5 rfl (by decide) (by omega) v108 y107 l1 _ _ _ (fun _ => True) (fun _ => False) rfl rfl ?aO ?aR (fun _ _ h => h) (fun _ h => h.elim) ?aF ?aB ?aS ?aL ?_; (case aR => repeat (first | exact (Kd.C_below HR1.out HB.out) | (with_reducible refine Kd.C_alloc ?_ _) | (with_reducible refine Kd.C_drewN ?_ _) | (with_reducible refine Kd.C_drew ?_))); (case aB => exact (by repeat (first | (with_reducible first | exact HB.out | apply below_alloc | apply pw_below_drewN | apply below_drew1) | exact HB.out))); (case aF => exact (fun _ _ => trivial)); (case aO => exact (by (with_reducible repeat (first | apply Kd.R_alloc | apply Kd.R_drewN | apply Kd.R_drew)); exact HO109.out)); (case aS => exact (below_size (by repeat (first | (with_reducible first | exact HB.out | apply below_alloc | apply pw_below_drewN | apply below_drew1) | exact HB.out)))); (case aL => have := LMc4.out; omega); intro v111 w29 ho hb hg hat; rw [← Ny110.out] at ho; have n0_ := Aside0.mk (hb); have n1_ := Aside0.mk (ho); clear HB; clear HO109; have HB := n0_; have HO112 := n1_; clear n0_ n1_; clear ho hb hg hat; obtain ⟨Ao30, co30, eo30⟩ := Kd.R_slice HO112.out; subst eo30) | ((with_reducible refine gate_callee (f := 12) rfl ?_); refine goesL_ (some 11) rfl rfl Try.func12 (by kernel_rfl) rfl #[.slice Ao30 y110.length co30] rfl (by (try simp only [List.map_toArray, List.map_cons, List.map_nil]); first | done | rfl | (simp only [List.length_drop, List.length_take]; rfl)) ?_; (with_reducible refine (crc_Sum.calls _ _ y110 t113 _ ?side1 ?side2 A5.out).mono ?_); (case side1 => repeat (first | exact (Kd.R_reads' HO112.out).2.2 | (with_reducible refine Kd.C_alloc ?_ _) | (with_reducible refine Kd.C_drewN ?_ _) | (with_reducible refine Kd.C_drew ?_))); (case side2 => exact (Kd.R_reads' HO112.out).2.1); rintro e w31 ⟨rfl, hb⟩; refine ⟨_, rfl, ?_⟩; have n0_ := Aside0.mk (Kd.R_below (by (with_reducible repeat (first | apply Kd.R_alloc | apply Kd.R_drewN | apply Kd.R_drew)); exact HO112.out) hb); have n1_ := Aside0.mk (below_step (by repeat (first | (with_reducible first | exact HB.out | apply below_alloc | apply pw_below_drewN | apply below_drew1) | exact HB.out)) hb); clear HO112; clear HB; have HO112 := n0_; have HB := n1_; clear n0_ n1_; (try clear hb); (try clear hb2); (try clear hk); (try clear hi)) | ((with_reducible refine gate_callee (f := 11) rfl ?_); refine goesL_ (some 12) rfl rfl Try.func11 (by kernel_rfl) rfl #[] rfl (by (try simp only [List.map_toArray, List.map_cons, List.map_nil]); first | done | rfl | (simp only [List.length_drop, List.length_take]; rfl)) ?_; (with_reducible refine (stowagelaw02_awake.calls  true _ A6.out).mono ?_); rintro e w32 ⟨rfl, hb⟩; refine ⟨_, rfl, ?_⟩; have n0_ := Aside0.mk (Kd.R_below (by (with_reducible repeat (first | apply Kd.R_alloc | apply Kd.R_drewN | apply Kd.R_drew)); exact HO112.out) hb); have n1_ := Aside0.mk (below_step (by repeat (first | (with_reducible first | exact HB.out | apply below_alloc | apply pw_below_drewN | apply below_drew1) | exact HB.out)) hb); clear HO112; clear HB; have HO112 := n0_; have HB := n1_; clear n0_ n1_; (try clear hb); (try clear hb2); (try clear hk); (try clear hi)) | (go_at_call 12; (with_reducible refine (crc_Sum.calls _ _ l0 t115 _ ?side1 ?side2 A8.out).mono ?_); (case side1 => repeat (first | exact (Kd.C_below HR0.out HB.out) | (with_reducible refine Kd.C_alloc ?_ _) | (with_reducible refine Kd.C_drewN ?_ _) | (with_reducible refine Kd.C_drew ?_))); (case side2 => exact HC0.out); rintro e w33 ⟨rfl, hb⟩; have n0_ := Aside0.mk (Kd.R_below (by (with_reducible repeat (first | apply Kd.R_alloc | apply Kd.R_drewN | apply Kd.R_drew)); exact HO112.out) hb); have n1_ := Aside0.mk (below_step (by repeat (first | (with_reducible first | exact HB.out | apply below_alloc | apply pw_below_drewN | apply below_drew1) | exact HB.out)) hb); clear HO112; clear HB; have HO112 := n0_; have HB := n1_; clear n0_ n1_; (try clear hb); (try clear hb2); (try clear hk); (try clear hi)) | (go_at_call 14; (with_reducible refine (crc_More.calls t115 _ _ l1 t116 _ ?side1 ?side2 A9.out).mono ?_); (case side1 => repeat (first | exact (Kd.C_below HR1.out HB.out) | (with_reducible refine Kd.C_alloc ?_ _) | (with_reducible refine Kd.C_drewN ?_ _) | (with_reducible refine Kd.C_drew ?_))); (case side2 => exact HC1.out); rintro e w34 ⟨rfl, hb⟩; have n0_ := Aside0.mk (Kd.R_below (by (with_reducible repeat (first | apply Kd.R_alloc | apply Kd.R_drewN | apply Kd.R_drew)); exact HO112.out) hb); have n1_ := Aside0.mk (below_step (by repeat (first | (with_reducible first | exact HB.out | apply below_alloc | apply pw_below_drewN | apply below_drew1) | exact HB.out)) hb); clear HO112; clear HB; have HO112 := n0_; have HB := n1_; clear n0_ n1_; (try clear hb); (try clear hb2); (try clear hk); (try clear hi)))
          go_ret
          exact ⟨by first | rfl | (simp [errW_none, errW_some] <;> rfl) | (simp [*, errW_none, errW_some] <;> rfl), by repeat (first | (with_reducible first | exact HB.out | apply below_alloc | apply pw_below_drewN | apply below_drew1) | exact HB.out)⟩
      · replace c7 := Bool.eq_false_iff.mpr c7
        subst c7
        have H1 : (some false) = some r := by rw [if_neg (show ¬ (false = true) by decide)] at H; exact H
        clear H
        have H := H1
        clear H1
        obtain rfl := Option.some.inj H
        go_enter Try.func9, Try.ntmps9
        go_wp2_with (first | ((with_reducible refine gate_dst (N := 6) rfl ?_); (try (refine gate_guard (by rfl) ?_; dsimp only)); refine Kd.R_lit (Kd.int .u8) _ 5 ?hg (N := 6) ?hd (xs := ([] : List Int)) (inner := []) (ok := fun _ => True) (okp := fun _ => True) ?hr ?hp (fun _ hk => hk) trivial (Below.refl _ _) (Nat.le_refl _) (by simp) ?_; (case hd => rfl); (case hg => rfl); (case hr => first | (go_simp; done) | (go_simp; rfl)); (case hp => exact (Reps.none _ _)); intro v105 w35 ho36 hb hg_ hnew_; clear hg_ hnew_; (first | rw [← Ny104.out] at ho36 | (simp only [Int.reduceToNat] at ho36; rw [← Ny104.out] at ho36)); have n0_ := Aside0.mk (Kd.R_lower ho36 (below_size (by repeat (first | (with_reducible first | exact HB.out | apply below_alloc | apply pw_below_drewN | apply below_drew1) | exact HB.out)))); have n1_ := Aside0.mk (below_step (by repeat (first | (with_reducible first | exact HB.out | apply below_alloc | apply pw_below_drewN | apply below_drew1) | exact HB.out)) hb); clear HB; have HO106 := n0_; have HB := n1_; clear n0_ n1_; clear hb ho36) | ((with_reducible refine gate_builtin (b := .append) (xs := #[.tmp 6, .tmp 7]) rfl ?_); (try (refine gate_guard (by rfl) ?_; dsimp only)); at_builtin; refine Kd.R_append_rows (Kd.int .u8) (w0 := w) w.heap.size rfl (.tmp 6) (.tmp 7) 23 5 (.int .u8 0) 1 rfl Try.underlying23 info5 rfl (by decide) (by omega) v105 y104 l0 _ _ _ (fun _ => True) (fun _ => False) rfl rfl ?aO ?aR (fun _ _ h => h) (fun _ h => h.elim) ?aF ?aB ?aS ?aL ?_; (case aR => repeat (first | exact (Kd.C_below HR0.out HB.out) | (with_reducible refine Kd.C_alloc ?_ _) | (with_reducible refine Kd.C_drewN ?_ _) | (with_reducible refine Kd.C_drew ?_))); (case aB => exact (by repeat (first | (with_reducible first | exact HB.out | apply below_alloc | apply pw_below_drewN | apply below_drew1) | exact HB.out))); (case aF => exact (fun _ _ => trivial)); (case aO => exact (by (with_reducible repeat (first | apply Kd.R_alloc | apply Kd.R_drewN | apply Kd.R_drew)); exact HO106.out)); (case aS => exact (below_size (by repeat (first | (with_reducible first | exact HB.out | apply below_alloc | apply pw_below_drewN | apply below_drew1) | exact HB.out)))); (case aL => have := LMc3.out; omega); intro v108 w37 ho hb hg hat; rw [← Ny107.out] at ho; have n0_ := Aside0.mk (hb); have n1_ := Aside0.mk (ho); clear HB; clear HO106; have HB := n0_; have HO109 := n1_; clear n0_ n1_; clear ho hb hg hat) | ((with_reducible refine gate_builtin (b := .append) (xs := #[.tmp 8, .tmp 9]) rfl ?_); (try (refine gate_guard (by rfl) ?_; dsimp only)); at_builtin; refine Kd.R_append_rows (Kd.int .u8) (w0 := w) w.heap.size rfl (.tmp 8) (.tmp 9) 23 5 (.int .u8 0) 1 rfl Try.underlying23 info5 rfl (by decide) (by omega) v108 y107 l1 _ _ _ (fun _ => True) (fun _ => False) rfl rfl ?aO ?aR (fun _ _ h => h) (fun _ h => h.elim) ?aF ?aB ?aS ?aL ?_; (case aR => repeat (first | exact (Kd.C_below HR1.out HB.out) | (with_reducible refine Kd.C_alloc ?_ _) | (with_reducible refine Kd.C_drewN ?_ _) | (with_reducible refine Kd.C_drew ?_))); (case aB => exact (by repeat (first | (with_reducible first | exact HB.out | apply below_alloc | apply pw_below_drewN | apply below_drew1) | exact HB.out))); (case aF => exact (fun _ _ => trivial)); (case aO => exact (by (with_reducible repeat (first | apply Kd.R_alloc | apply Kd.R_drewN | apply Kd.R_drew)); exact HO109.out)); (case aS => exact (below_size (by repeat (first | (with_reducible first | exact HB.out | apply below_alloc | apply pw_below_drewN | apply below_drew1) | exact HB.out)))); (case aL => have := LMc4.out; omega); intro v111 w38 ho hb hg hat; rw [← Ny110.out] at ho; have n0_ := Aside0.mk (hb); have n1_ := Aside0.mk (ho); clear HB; clear HO109; have HB := n0_; have HO112 := n1_; clear n0_ n1_; clear ho hb hg hat; obtain ⟨Ao39, co39, eo39⟩ := Kd.R_slice HO112.out; subst eo39) | ((with_reducible refine gate_callee (f := 12) rfl ?_); refine goesL_ (some 11) rfl rfl Try.func12 (by kernel_rfl) rfl #[.slice Ao39 y110.length co39] rfl (by (try simp only [List.map_toArray, List.map_cons, List.map_nil]); first | done | rfl | (simp only [List.length_drop, List.length_take]; rfl)) ?_; (with_reducible refine (crc_Sum.calls _ _ y110 t113 _ ?side1 ?side2 A5.out).mono ?_); (case side1 => repeat (first | exact (Kd.R_reads' HO112.out).2.2 | (with_reducible refine Kd.C_alloc ?_ _) | (with_reducible refine Kd.C_drewN ?_ _) | (with_reducible refine Kd.C_drew ?_))); (case side2 => exact (Kd.R_reads' HO112.out).2.1); rintro e w40 ⟨rfl, hb⟩; refine ⟨_, rfl, ?_⟩; have n0_ := Aside0.mk (Kd.R_below (by (with_reducible repeat (first | apply Kd.R_alloc | apply Kd.R_drewN | apply Kd.R_drew)); exact HO112.out) hb); have n1_ := Aside0.mk (below_step (by repeat (first | (with_reducible first | exact HB.out | apply below_alloc | apply pw_below_drewN | apply below_drew1) | exact HB.out)) hb); clear HO112; clear HB; have HO112 := n0_; have HB := n1_; clear n0_ n1_; (try clear hb); (try clear hb2); (try clear hk); (try clear hi)) | ((with_reducible refine gate_callee (f := 11) rfl ?_); refine goesL_ (some 12) rfl rfl Try.func11 (by kernel_rfl) rfl #[] rfl (by (try simp only [List.map_toArray, List.map_cons, List.map_nil]); first | done | rfl | (simp only [List.length_drop, List.length_take]; rfl)) ?_; (with_reducible refine (stowagelaw02_awake.calls  false _ A6.out).mono ?_); rintro e w41 ⟨rfl, hb⟩; refine ⟨_, rfl, ?_⟩; have n0_ := Aside0.mk (Kd.R_below (by (with_reducible repeat (first | apply Kd.R_alloc | apply Kd.R_drewN | apply Kd.R_drew)); exact HO112.out) hb); have n1_ := Aside0.mk (below_step (by repeat (first | (with_reducible first | exact HB.out | apply below_alloc | apply pw_below_drewN | apply below_drew1) | exact HB.out)) hb); clear HO112; clear HB; have HO112 := n0_; have HB := n1_; clear n0_ n1_; (try clear hb); (try clear hb2); (try clear hk); (try clear hi)))
        go_ret
        exact ⟨by first | rfl | (simp [errW_none, errW_some] <;> rfl) | (simp [*, errW_none, errW_some] <;> rfl), by repeat (first | (with_reducible first | exact HB.out | apply below_alloc | apply pw_below_drewN | apply below_drew1) | exact HB.out)⟩
    · rw [if_neg c4] at H
      exact absurd H (by simp)
  · rw [if_neg c3] at H
    exact absurd H (by simp)

/-- THE ONE PURE STATEMENT of stowagelaw02_CrcParts: yours. -/
def stowagelaw02_CrcParts.Pure : Prop := ∀ (l0 : List Int) (l1 : List Int), l0.length ≤ maxLen → l0.length * 1 ≤ 140737488351232 → (∀ x ∈ l0, (Lit.int .u8 x).wf = true) → l1.length ≤ maxLen → l1.length * 1 ≤ 140737488351232 → (∀ x ∈ l1, (Lit.int .u8 x).wf = true) → stowagelaw02_CrcParts.f l0 l1 = some true
theorem stowagelaw02_CrcParts.walk (P : stowagelaw02_CrcParts.Pure) (a0 : Option Addr) (len0 cap0 : Nat) (z0 : List Int) (a1 : Option Addr) (len1 cap1 : Nat) (z1 : List Int) (w : World) (w0 : (a0 = none ∧ len0 = 0 ∧ cap0 = 0 ∧ z0 = []) ∨ ∃ x, a0 = some x ∧ len0 ≤ cap0 ∧ cap0 ≤ maxLen ∧ z0.length = cap0 ∧ (∀ i, i < z0.length → w.cell? (x.add i) = some (.int .u8 (z0.getD i 0))) ∧ ∀ n ∈ z0, (Lit.int .u8 n).wf = true) (y0 : len0 * 1 ≤ 140737488351232) (w1 : (a1 = none ∧ len1 = 0 ∧ cap1 = 0 ∧ z1 = []) ∨ ∃ x, a1 = some x ∧ len1 ≤ cap1 ∧ cap1 ≤ maxLen ∧ z1.length = cap1 ∧ (∀ i, i < z1.length → w.cell? (x.add i) = some (.int .u8 (z1.getD i 0))) ∧ ∀ n ∈ z1, (Lit.int .u8 n).wf = true) (y1 : len1 * 1 ≤ 140737488351232) :
    Calls Try.prog 9 #[.slice a0 len0 cap0, .slice a1 len1 cap1] w fun e w' => e = .returned (.bool true) ∧ Below w.heap.size w w' := by
  obtain ⟨l0, rfl, hr0, hm0, hw0, hc0⟩ := ReadsInt.ofRowC w0
  obtain ⟨l1, rfl, hr1, hm1, hw1, hc1⟩ := ReadsInt.ofRowC w1
  have h := P l0 l1 hm0 y0 hw0 hm1 y1 hw1
  refine (stowagelaw02_CrcParts.calls _ _ l0 _ _ l1 true w (Kd.C_of_reads (d := (0 : Int)) (h1 := fun _ => rfl) hr0) hc0 (Kd.C_of_reads (d := (0 : Int)) (h1 := fun _ => rfl) hr1) hc1 h).mono ?_
  rintro e w' ⟨rfl, hd⟩
  exact ⟨rfl, hd⟩

end Go.Proofs.Ytcjnbcfhbiijbaa.QCrcParts
