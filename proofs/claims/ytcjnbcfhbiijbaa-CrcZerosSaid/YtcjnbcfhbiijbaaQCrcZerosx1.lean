/- Written by a program of this session (wip/tools/mk.py) out of the kit's printing programs and of texts of our own: the contracts of the Go functions that the law goes through, and the row of the law. No condition is added. -/
import Derived.Test.YtcjnbcfhbiijbaaQCrcZerosx0
namespace Go.Proofs.Ytcjnbcfhbiijbaa.QCrcZeros
open Go.RowKit Go.Proofs.YtcjnbcfhbiijbaaW.PrintWords Go.Proofs.YtcjnbcfhbiijbaaW.PrintLast Go.Proofs.YtcjnbcfhbiijbaaW.PrintMore
attribute [local go_sem] max2_int min2_int max_two min_two max_three min_three max_four min_four   -- for this text's walks alone
set_option linter.unusedVariables false
set_option linter.unusedSimpArgs false

/-! ### crc_step: function 20 -/
def crc_step.f (a0 : Int) : Option (Int) := if (Go.bits .and .u32 a0 1) = 1 then (some (Go.bits .xor .u32 (a0 / 2) 3988292384)) else (some (a0 / 2))
set_option maxHeartbeats 8000000 in
set_option maxRecDepth 100000 in
theorem crc_step.calls (a0 : Int) (r : Int) (w : World) (h : crc_step.f a0 = some r) :
    Calls Try.prog 20 #[.int .u32 a0] w fun e w' => e = .returned (.int .u32 r) ∧ Drawn0 w w' := by
  have H : (if (Go.bits .and .u32 a0 1) = 1 then (some (Go.bits .xor .u32 (a0 / 2) 3988292384)) else (some (a0 / 2))) = some r := h
  clear h
  by_cases c2 : (Go.bits .and .u32 a0 1) = 1
  · rw [if_pos c2] at H
    have c2b0 : ((Go.bits .and .u32 a0 1) == 1) = true := beq_iff_eq.mpr c2
    have c2b1 : ((Go.bits .and .u32 a0 1) != 1) = false := bne_eq_false_iff_eq.mpr c2
    clear c2
    obtain rfl := Option.some.inj H
    go_enter Try.func20, Try.ntmps20
    go_wp2
    go_ret
    exact ⟨by first | rfl | (simp; done) | (simp [*]; done), by repeat (first | exact Drawn0.refl _ | apply Drawn0.step)⟩
  · rw [if_neg c2] at H
    have c2b0 : ((Go.bits .and .u32 a0 1) == 1) = false := beq_eq_false_iff_ne.mpr c2
    have c2b1 : ((Go.bits .and .u32 a0 1) != 1) = true := bne_iff_ne.mpr c2
    obtain rfl := Option.some.inj H
    go_enter Try.func20, Try.ntmps20
    go_wp2
    go_ret
    exact ⟨by first | rfl | (simp; done) | (simp [*]; done), by repeat (first | exact Drawn0.refl _ | apply Drawn0.step)⟩

/-! ### crc_rows: function 19 -/
section
variable {P : Program} {ops : Array Oper} {rest : List Oper} {o : Oper} {a : Act} {Q : Exit → Act → World → Prop} {w w' : World}
theorem wpList_value {v : Value} (hg : o.guard = none) (hr : (execOp a.eval o).run P w = .ok (.value v) w') (h : wpList P ops Q rest (a.put o.dst v) w') : wpList P ops Q (o :: rest) a w := by
  refine wpList_plain hg fun K hK => ?_
  unfold Oper.wp
  rw [hr]
  exact hK _ _ h
theorem wpList_build (t : TypeId) (hg : o.guard = none) (ho : o.op = .build t #[]) (cells : Array Value) (hb : P.built t [] = some cells) (h : wpList P ops Q rest (a.put o.dst (.agg cells)) w) : wpList P ops Q (o :: rest) a w := by
  refine wpList_value hg ?_ h
  unfold execOp
  simp only [ho, List.map_toArray, List.map_nil, Sem.run_bind]
  rw [run_build w t _ cells (by simpa using hb)]
  rfl
theorem wpList_box (t : TypeId) (x : Operand) (cells : Array Value) (hg : o.guard = none) (ho : o.op = .box t x) (hx : a.eval x = .agg cells) (h : wpList P ops Q rest (a.put o.dst (.pointer (some ⟨w.heap.size, 0, none⟩))) (w.alloc (.cells cells t))) : wpList P ops Q (o :: rest) a w := by
  refine wpList_value hg ?_ h
  unfold execOp
  simp only [ho, hx, Sem.run_bind]
  simp [Instr.box, newVar, go_sem]
end

/-- An array of n whole numbers 0. -/
def zArr (k : IntKind) (n : Nat) : Array Value := (List.replicate n (Value.int k 0)).toArray
theorem built46 : Try.prog.built 46 [] = some (zArr .u32 256) := by kernel_rfl

def stepI (r : Int) : Int := if Go.bits .and .u32 r 1 = 1 then Go.bits .xor .u32 (r / 2) 3988292384 else r / 2
theorem stepI_eq (r : Int) : crc_step.f r = some (stepI r) := by unfold crc_step.f stepI; split <;> rfl
def iterI : Nat → Int → Int
  | 0, r => r
  | n + 1, r => stepI (iterI n r)
def tabT (j : Nat) : Int := iterI 8 (j : Int)
/-- Block b holds n whole numbers of which the first k are told by T. -/
structure Tab (T : Nat → Int) (t b n k : Nat) (wr : World) : Prop where mk ::
  (out : ∃ cs : Array Value, wr.heap[b]? = some (.cells cs t (0, 0)) ∧ cs.size = n ∧ (∀ j, j < n → ∃ x, cs[j]? = some (.int .u32 x)) ∧ ∀ j, j < k → cs[j]? = some (.int .u32 (T j)))
theorem Tab.start (T : Nat → Int) (t n : Nat) (w : World) : Tab T t w.heap.size n 0 (w.alloc (.cells (zArr .u32 n) t)) :=
  ⟨zArr .u32 n, heap_alloc_new w _, by simp [zArr], fun j hj => ⟨0, by simp [zArr, hj]⟩, fun j hj => by omega⟩
theorem Tab.lt {T : Nat → Int} {t b n k : Nat} {wr : World} (h : Tab T t b n k wr) : b < wr.heap.size := by
  obtain ⟨cs, h1, _⟩ := h.out
  exact (Array.getElem?_eq_some_iff.1 h1).1
theorem Tab.cell {T : Nat → Int} {t b n k : Nat} {wr : World} (h : Tab T t b n k wr) (j : Nat) (hj : j < n) : ∃ x, wr.cell? ⟨b, j, none⟩ = some (.int .u32 x) := by
  obtain ⟨cs, h1, _, h2, _⟩ := h.out
  obtain ⟨x, hx⟩ := h2 j hj
  exact ⟨x, by simp [World.cell?, h1, hx]⟩
theorem Tab.at_ {T : Nat → Int} {t b n k : Nat} {wr : World} (h : Tab T t b n k wr) (j : Nat) (hj : j < k) : wr.cell? ⟨b, j, none⟩ = some (.int .u32 (T j)) := by
  obtain ⟨cs, h1, _, _, h2⟩ := h.out
  simp [World.cell?, h1, h2 j hj]
theorem Tab.free {T : Nat → Int} {t b n k : Nat} {wr : World} (h : Tab T t b n k wr) (j : Nat) : wr.frozen? ⟨b, j, none⟩ = false := by
  obtain ⟨cs, h1, _⟩ := h.out
  simp [World.frozen?, h1]
theorem Tab.drewN {T : Nat → Int} {t b n k : Nat} {wr : World} (h : Tab T t b n k wr) (m : Nat) : Tab T t b n k (wr.drewN m) := ⟨h.out⟩
theorem Tab.below {T : Nat → Int} {t b n k B : Nat} {wr w' : World} (h : Tab T t b n k wr) (hb : Below B wr w') (hB : b < B) : Tab T t b n k w' := by
  obtain ⟨cs, h1, h2⟩ := h.out
  exact ⟨cs, by rw [hb.block b hB]; exact h1, h2⟩
theorem Tab.store {T : Nat → Int} {t b n k : Nat} {wr : World} (h : Tab T t b n k wr) (hk : k < n) : Tab T t b n (k + 1) (wr.setCell ⟨b, k, none⟩ (.int .u32 (T k))) := by
  obtain ⟨cs, h1, h2, h3, h4⟩ := h.out
  refine ⟨cs.setIfInBounds k (.int .u32 (T k)), ?_, by simpa using h2, fun j hj => ?_, fun j hj => ?_⟩
  · simp [World.setCell, Array.getElem?_modify, h1]
  · by_cases e : k = j
    · subst e; exact ⟨T k, by simp [Array.getElem?_setIfInBounds, h2, hk]⟩
    · obtain ⟨x, hx⟩ := h3 j hj
      exact ⟨x, by simp [Array.getElem?_setIfInBounds, e, hx]⟩
  · by_cases e : k = j
    · subst e; simp [Array.getElem?_setIfInBounds, h2, hk]
    · simp [Array.getElem?_setIfInBounds, e, h4 j (by omega)]

set_option maxHeartbeats 1000000 in
set_option maxRecDepth 100000 in
theorem crc_rows.calls (w : World) : Calls Try.prog 19 #[] w fun e w' => e = .returned (.pointer (some ⟨w.heap.size, 0, none⟩)) ∧ Below w.heap.size w w' ∧ Tab tabT 46 w.heap.size 256 256 w' := by
  have H0 := Tab.start tabT 46 256 w
  have HB0 := Aside0.mk ((Below.refl w.heap.size w).alloc (Nat.le_refl _) (.cells (zArr .u32 256) 46))
  go_enter Try.func19, Try.ntmps19
  go_wp2_with (first | ((with_reducible refine gate_dst (N := 4) rfl ?_); refine wpList_build 46 rfl rfl (zArr .u32 256) built46 ?_) | ((with_reducible refine gate_dst (N := 5) rfl ?_); refine wpList_box 46 (.tmp 4) (zArr .u32 256) rfl rfl rfl ?_))
  go_loopw [6] (fun i wr => ∃ k : Nat, k ≤ 256 ∧ i = .int .i64 k ∧ Aside0 (Below w.heap.size w wr) ∧ Tab tabT 46 w.heap.size 256 k wr) (fun i _ => 256 - (intOf i).toNat)
  case atStart => exact ⟨0, by omega, rfl, HB0, H0⟩
  case round =>
    obtain ⟨k, hk, rfl, HB, HT⟩ := hrel
    clear H0 HB0
    by_cases hlt : k < 256
    · have hlb : decide ((k : Int) < 256) = true := by simp; omega
      go_wp2_with fail
      obtain ⟨wo, rfl⟩ : ∃ wo : World, wo = wr := ⟨_, rfl⟩
      go_loopw [3, 11] (fun r i wq => ∃ m : Nat, m ≤ 8 ∧ i = .int .i64 m ∧ r = .int .u32 (iterI m (k : Int)) ∧ Aside0 (Below w.heap.size w wq) ∧ Tab tabT 46 w.heap.size 256 k wq) (fun _ i _ => 8 - (intOf i).toNat)
      case atStart => exact ⟨0, by omega, rfl, rfl, HB, HT⟩
      case round =>
        obtain ⟨m, hm, rfl, rfl, HB, HT⟩ := hrel
        by_cases hlm : m < 8
        · go_wp2_with (go_at_call 20; refine (crc_step.calls _ (stepI (iterI m (k : Int))) _ (stepI_eq _)).mono ?_; rintro e w' ⟨rfl, ⟨nd, rfl⟩⟩)
          go_roundw
          case rel =>
            exact ⟨m + 1, by omega, by go_num, rfl, ⟨pw_below_drewN HB.out nd⟩, HT.drewN nd⟩
          case measure => simp [intOf]; omega
        · obtain rfl : m = 8 := by omega
          obtain ⟨x0, hx0⟩ := HT.cell k hlt
          have hf0 := HT.free k
          have HS := HT.store hlt
          go_wp2_with fail
          go_roundw
          case rel => exact ⟨k + 1, by omega, by go_num, ⟨HB.out.setCell (Nat.le_refl _) _⟩, HS⟩
          case measure => simp [intOf]; omega
    · go_wp2_with fail
      go_ret
      obtain rfl : k = 256 := by omega
      exact ⟨rfl, HB.out, HT⟩


/-! ### crc_More: function 14 -/
def moreStep (r x : Int) : Int := Go.bits .xor .u32 (r / 256) (tabT (Go.bits .xor .u8 (r % 256) x).toNat)
def crc_More.f (a0 : Int) (l1 : List Int) : Option Int := some (Go.bits .xor .u32 IntKind.u32.max (l1.foldl moreStep (Go.bits .xor .u32 IntKind.u32.max a0)))
theorem foldl_take (f : Int → Int → Int) (a : Int) (l : List Int) (k : Nat) (h : k < l.length) : (l.take (k + 1)).foldl f a = f ((l.take k).foldl f a) (rd l (k : Int)) := by
  rw [List.take_succ_eq_append_getElem h, List.foldl_append]
  simp [rd, List.getD_eq_getElem?_getD, List.getElem?_eq_getElem h]
theorem u8_range (a b : Int) : 0 ≤ Go.bits .xor .u8 a b ∧ Go.bits .xor .u8 a b < 256 := by
  unfold Go.bits
  split <;> (rw [IntKind.wrap_u8]; omega)
set_option maxHeartbeats 1000000 in
set_option maxRecDepth 100000 in
theorem crc_More.calls (a0 : Int) (A1 : Option Addr) (c1 : Nat) (l1 : List Int) (r : Int) (w : World) (hr1 : Kd.C (Kd.int .u8) w A1 l1.length l1) (hc1 : l1.length ≤ c1) (h : crc_More.f a0 l1 = some r) :
    Calls Try.prog 14 #[.int .u32 a0, .slice A1 l1.length c1] w fun e w' => e = .returned (.int .u32 r) ∧ Below w.heap.size w w' := by
  have HR1 := Aside0.mk hr1
  have HL := hr1.2.1
  clear hr1 hc1
  have h' : Go.bits .xor .u32 IntKind.u32.max (l1.foldl moreStep (Go.bits .xor .u32 IntKind.u32.max a0)) = r := Option.some.inj h
  have H := Aside0.mk h'
  clear h h'
  go_enter Try.func14, Try.ntmps14
  go_wp2_with (go_at_call 19; refine (crc_rows.calls _).mono ?_; rintro e w1 ⟨rfl, hb, HT⟩)
  go_loopw [6, 14] (fun r i wr => ∃ k : Nat, k ≤ l1.length ∧ i = .int .i64 k ∧ r = .int .u32 ((l1.take k).foldl moreStep (Go.bits .xor .u32 IntKind.u32.max a0)) ∧ Aside0 (Below w.heap.size w wr) ∧ Tab tabT 46 w.heap.size 256 256 wr) (fun _ i _ => l1.length - (intOf i).toNat)
  case atStart => exact ⟨0, by omega, rfl, rfl, ⟨hb⟩, HT⟩
  case round =>
    obtain ⟨k, hk, rfl, rfl, HB, HT⟩ := hrel
    clear hb
    by_cases hlt : k < l1.length
    · have hlb : decide ((k : Int) < (l1.length : Int)) = true := by simp; omega
      obtain ⟨ad, rfl, hx⟩ := Kd.at_int HR1.out (k : Int) (by omega) (by omega)
      replace hx := (HB.out.cell (World.block_lt_of_cell? w _ hx)).trans hx
      rw [Int.toNat_natCast] at hx
      have HF := Aside0.mk (foldl_take moreStep (Go.bits .xor .u32 IntKind.u32.max a0) l1 k hlt)
      generalize (l1.take k).foldl moreStep (Go.bits .xor .u32 IntKind.u32.max a0) = s at *
      obtain ⟨hq0, hq1⟩ := u8_range (s % 256) (rd l1 (k : Int))
      have HQ : Aside0 (moreStep s (rd l1 (k : Int)) = Go.bits .xor .u32 (s / 256) (tabT (Go.bits .xor .u8 (s % 256) (rd l1 (k : Int))).toNat)) := Aside0.mk rfl
      obtain ⟨q, hq⟩ := Int.eq_ofNat_of_zero_le hq0
      rw [hq] at HQ hq1
      clear hq0
      have hc := HT.at_ q (by omega)
      go_wp2_with fail
      go_roundw
      case rel => exact ⟨k + 1, by omega, by go_num, by rw [HF.out, HQ.out]; rfl, HB, HT⟩
      case measure => simp [intOf]; omega
    · go_wp2_with fail
      go_ret
      obtain rfl : k = l1.length := by omega
      exact ⟨congrArg (fun z => Ending.returned (.int .u32 z)) (by rw [List.take_length]; exact H.out), HB.out⟩


/-! ### crc_Sum: function 12 -/
def crc_Sum.f (l0 : List Int) : Option (Int) := (crc_More.f 0 l0).bind fun t101 => (some t101)
set_option maxHeartbeats 8000000 in
set_option maxRecDepth 100000 in
theorem crc_Sum.calls (A0 : Option Addr) (c0 : Nat) (l0 : List Int) (r : Int) (w : World) (hr0 : Kd.C (Kd.int .u8) w A0 l0.length l0) (hc0 : l0.length ≤ c0) (h : crc_Sum.f l0 = some r) :
    Calls Try.prog 12 #[.slice A0 l0.length c0] w fun e w' => e = .returned (.int .u32 r) ∧ Below w.heap.size w w' := by
  have HR0 := Aside0.mk hr0
  have HC0 := Aside0.mk hc0
  clear hr0 hc0
  have HB := Aside0.mk (Below.refl w.heap.size w)
  have H : ((crc_More.f 0 l0).bind fun t101 => (some t101)) = some r := h
  clear h
  replace H := Option.bind_eq_some_iff.mp H
  obtain ⟨t101, A20, H⟩ := H
  replace H : (some t101) = some r := H
  have A2 := Aside0.mk A20
  clear A20
  obtain rfl := Option.some.inj H
  go_enter Try.func12, Try.ntmps12
  go_wp2_with (first | ((with_reducible refine gate_callee (f := 14) rfl ?_); refine goesL_ (some 4) rfl rfl Try.func14 (by kernel_rfl) rfl #[.int .u32 0, .slice A0 l0.length c0] rfl (by (try simp only [List.map_toArray, List.map_cons, List.map_nil]); first | done | rfl | (simp only [List.length_drop, List.length_take]; rfl)) ?_; (with_reducible refine (crc_More.calls 0 _ _ l0 t101 _ ?side1 ?side2 A2.out).mono ?_); (case side1 => repeat (first | exact HR0.out | (with_reducible refine Kd.C_alloc ?_ _) | (with_reducible refine Kd.C_drewN ?_ _) | (with_reducible refine Kd.C_drew ?_))); (case side2 => exact HC0.out); rintro e w3 ⟨rfl, hb⟩; refine ⟨_, rfl, ?_⟩; have n0_ := Aside0.mk (below_step (by repeat (first | (with_reducible first | exact HB.out | apply below_alloc | apply pw_below_drewN | apply below_drew1) | exact HB.out)) hb); clear HB; have HB := n0_; clear n0_; (try clear hb); (try clear hb2); (try clear hk); (try clear hi)))
  go_ret
  exact ⟨by first | rfl | (simp [errW_none, errW_some] <;> rfl) | (simp [*, errW_none, errW_some] <;> rfl), by repeat (first | (with_reducible first | exact HB.out | apply below_alloc | apply pw_below_drewN | apply below_drew1) | exact HB.out)⟩

/-! ### stowagelaw02_awake: function 11 -/
def nine : List Int := [49, 50, 51, 52, 53, 54, 55, 56, 57]
def nineC : Array Value := #[.int .u8 49, .int .u8 50, .int .u8 51, .int .u8 52, .int .u8 53, .int .u8 54, .int .u8 55, .int .u8 56, .int .u8 57]
theorem nine_at : ∀ j, j < 9 → nineC[j]? = some (.int .u8 (nine.getD j 0)) := by
  intro j hj
  have : j = 0 ∨ j = 1 ∨ j = 2 ∨ j = 3 ∨ j = 4 ∨ j = 5 ∨ j = 6 ∨ j = 7 ∨ j = 8 := by omega
  rcases this with rfl | rfl | rfl | rfl | rfl | rfl | rfl | rfl | rfl <;> rfl
theorem nine_reads (w W : World) (t : TypeId) (fr : Nat × Nat) (b : Nat) (h : W.heap[b]? = some (.cells nineC t fr)) : Kd.C (Kd.int .u8) W (some ⟨b, 0, none⟩) nine.length nine := by
  refine Kd.C_of_reads (d := (0 : Int)) (h1 := fun _ => rfl) ⟨rfl, by decide, fun _ => ⟨_, rfl, fun j hj => ?_⟩⟩
  rw [add_plain]
  simp only [World.cell?, h]
  exact nine_at j hj
theorem none_reads (W : World) : Kd.C (Kd.int .u8) W none ([] : List Int).length [] :=
  Kd.C_of_reads (d := (0 : Int)) (h1 := fun _ => rfl) ⟨rfl, by decide, fun h => absurd h (by decide)⟩
def stowagelaw02_awake.f : Option (Bool) := (crc_Sum.f nine).bind fun t105 => (if t105 = 3421780262 then ((crc_Sum.f ([] : List Int)).bind fun t106 => (some (t106 == 0))) else (some false))
set_option maxHeartbeats 1000000 in
set_option maxRecDepth 100000 in
theorem stowagelaw02_awake.calls (r : Bool) (w : World) (h : stowagelaw02_awake.f = some r) :
    Calls Try.prog 11 #[] w fun e w' => e = .returned (.bool r) ∧ Below w.heap.size w w' := by
  unfold stowagelaw02_awake.f at h
  obtain ⟨s1, h1, h2⟩ := Option.bind_eq_some_iff.1 h
  have H1 := Aside0.mk h1
  clear h h1
  have kc := fun (w : World) (C : Array Value) (n c : Nat) => Lib.run_convert_bytes_const (P := Try.prog) w 23 5 C n c Try.underlying23 Try.underlying5
  have HC := Aside0.mk (nine_reads w (w.alloc (.cells nineC 5 (9, 10))) 5 (9, 10) w.heap.size (heap_alloc_new w _))
  have hsz : (w.alloc (.cells nineC 5 (9, 10))).heap.size = w.heap.size + 1 := by simp
  by_cases c : s1 = 3421780262
  · rw [if_pos c] at h2
    obtain ⟨s2, h3, h4⟩ := Option.bind_eq_some_iff.1 h2
    have H3 := Aside0.mk h3
    obtain rfl := Option.some.inj h4
    have cb : (s1 == 3421780262) = true := beq_iff_eq.mpr c
    clear h2 h3 h4 c
    go_enter Try.func11, Try.ntmps11
    go_wp2_with fail
    refine (crc_Sum.calls (some ⟨w.heap.size, 0, none⟩) 9 nine s1 (w.alloc (.cells nineC 5 (9, 10))) HC.out (by decide) H1.out).mono ?_
    rintro e w1 ⟨rfl, hb1⟩
    go_wp2_with fail
    refine (crc_Sum.calls none 0 [] s2 _ (none_reads _) (by decide) H3.out).mono ?_
    rintro e w2 ⟨rfl, hb2⟩
    go_wp2_with fail
    go_ret
    exact ⟨rfl, below_then (below_then (below_alloc (Below.refl _ _) _) (by simp) hb1) (by have := hb1.size; simp at this; omega) hb2⟩
  · rw [if_neg c] at h2
    obtain rfl := Option.some.inj h2
    have cb : (s1 == 3421780262) = false := beq_eq_false_iff_ne.mpr c
    clear h2 c
    go_enter Try.func11, Try.ntmps11
    go_wp2_with fail
    refine (crc_Sum.calls (some ⟨w.heap.size, 0, none⟩) 9 nine s1 (w.alloc (.cells nineC 5 (9, 10))) HC.out (by decide) H1.out).mono ?_
    rintro e w1 ⟨rfl, hb1⟩
    go_wp2_with fail
    go_ret
    exact ⟨rfl, below_then (below_alloc (Below.refl _ _) _) (by simp) hb1⟩

/-! ### crc_matrix_times: function 21 -/
theorem built42 : Try.prog.built 42 [] = some (zArr .u32 32) := by kernel_rfl
def andOne (r : Int) : Bool := Go.bits .and .u32 r 1 == 1
def tI (M : Nat → Int) : Nat → Nat → Int → Int → Int
  | 0, _, _, out => out
  | d + 1, i, r, out => if r = 0 then out else tI M d (i + 1) (r / 2) (if Go.bits .and .u32 r 1 = 1 then Go.bits .xor .u32 out (M i) else out)
theorem tI_zero (M : Nat → Int) (d i : Nat) (out : Int) : tI M d i 0 out = out := by cases d <;> simp [tI]
set_option maxHeartbeats 1000000 in
set_option maxRecDepth 100000 in
theorem matrix_times.calls (M : Nat → Int) (g : Nat) (r : Int) (w : World) (hM : Tab M 42 g 32 32 w) (h0 : 0 ≤ r) (h1 : r < 4294967296) :
    Calls Try.prog 21 #[.pointer (some ⟨g, 0, none⟩), .int .u32 r] w fun e w' => e = .returned (.int .u32 (tI M 32 0 r 0)) ∧ Drawn0 w w' := by
  go_enter Try.func21, Try.ntmps21
  go_wp2_with fail
  go_loopw [1, 5, 6] (fun q s i wr => ∃ (k d : Nat) (ρ σ : Int), k + d = 32 ∧ i = .int .i64 k ∧ q = .int .u32 ρ ∧ s = .int .u32 σ ∧ 0 ≤ ρ ∧ ρ < 2 ^ d ∧ Aside0 (tI M d k ρ σ = tI M 32 0 r 0) ∧ Aside0 (Drawn0 w wr)) (fun q _ i _ => 32 - (intOf i).toNat)
  case atStart => exact ⟨0, 32, r, 0, rfl, rfl, rfl, rfl, h0, h1, ⟨rfl⟩, ⟨Drawn0.refl _⟩⟩
  case round =>
    obtain ⟨k, d, ρ, σ, hkd, rfl, rfl, rfl, hρ0, hρ1, HE, HD⟩ := hrel
    by_cases hz : ρ = 0
    · subst hz
      have HE' := HE.out
      rw [tI_zero] at HE'
      go_wp2_with fail
      go_ret
      exact ⟨congrArg (fun z => Ending.returned (.int .u32 z)) HE', HD.out⟩
    · have hzb : (ρ != 0) = true := by simpa using hz
      obtain ⟨d, rfl⟩ : ∃ d', d = d' + 1 := ⟨d - 1, by
        rcases d with _ | d
        · simp at hρ1; omega
        · rfl⟩
      have hk : k < 32 := by omega
      have HE' : tI M (d + 1) k ρ σ = tI M d (k + 1) (ρ / 2) (if Go.bits .and .u32 ρ 1 = 1 then Go.bits .xor .u32 σ (M k) else σ) := by simp only [tI]; rw [if_neg hz]
      have hρ2 : ρ / 2 < 2 ^ d := by rw [Int.pow_succ] at hρ1; omega
      have hc : wr.cell? ⟨g, k, none⟩ = some (.int .u32 (M k)) := by
        obtain ⟨nn, hn⟩ := HD.out.out
        rw [hn]
        exact (hM.drewN nn).at_ k hk
      clear hρ1
      by_cases hb : Go.bits .and .u32 ρ 1 = 1
      · rw [if_pos hb] at HE'
        have HX := Aside0.mk (HE'.symm.trans HE.out)
        have hbb : (Go.bits .and .u32 ρ 1 == 1) = true := beq_iff_eq.mpr hb
        clear HE HE' hb
        have H2 := Aside0.mk hρ2
        clear hρ2
        go_wp2_with fail
        go_roundw
        case rel => exact ⟨k + 1, d, _, _, by omega, by go_num, rfl, rfl, by omega, H2.out, HX, HD⟩
        case measure => simp [intOf]; omega
      · rw [if_neg hb] at HE'
        have HX := Aside0.mk (HE'.symm.trans HE.out)
        have hbb : (Go.bits .and .u32 ρ 1 == 1) = false := beq_eq_false_iff_ne.mpr hb
        clear HE HE' hb
        have H2 := Aside0.mk hρ2
        clear hρ2
        go_wp2_with fail
        go_roundw
        case rel => exact ⟨k + 1, d, _, _, by omega, by go_num, rfl, rfl, by omega, H2.out, HX, HD⟩
        case measure => simp [intOf]; omega


/-! ### crc_matrix_twice: function 22 -/
def U32 (M : Nat → Int) : Prop := ∀ j, j < 32 → 0 ≤ M j ∧ M j < 4294967296
def twI (M : Nat → Int) (j : Nat) : Int := tI M 32 0 (M j) 0
set_option maxHeartbeats 1000000 in
set_option maxRecDepth 100000 in
theorem matrix_twice.calls (M : Nat → Int) (g : Nat) (w : World) (hM : Tab M 42 g 32 32 w) (hU : U32 M) :
    Calls Try.prog 22 #[.pointer (some ⟨g, 0, none⟩)] w fun e w' => e = .returned (.pointer (some ⟨w.heap.size, 0, none⟩)) ∧ Below w.heap.size w w' ∧ Tab (twI M) 42 w.heap.size 32 32 w' := by
  have H0 := Tab.start (twI M) 42 32 w
  have HB0 := Aside0.mk ((Below.refl w.heap.size w).alloc (Nat.le_refl _) (.cells (zArr .u32 32) 42))
  have hU' := Aside0.mk hU
  clear hU
  go_enter Try.func22, Try.ntmps22
  go_wp2_with (first | ((with_reducible refine gate_dst (N := 5) rfl ?_); refine wpList_build 42 rfl rfl (zArr .u32 32) built42 ?_) | ((with_reducible refine gate_dst (N := 6) rfl ?_); refine wpList_box 42 (.tmp 5) (zArr .u32 32) rfl rfl rfl ?_))
  go_loopw [7] (fun i wr => ∃ k : Nat, k ≤ 32 ∧ i = .int .i64 k ∧ Aside0 (Below w.heap.size w wr) ∧ Tab (twI M) 42 w.heap.size 32 k wr) (fun i _ => 32 - (intOf i).toNat)
  case atStart => exact ⟨0, by omega, rfl, HB0, H0⟩
  case round =>
    obtain ⟨k, hk, rfl, HB, HT⟩ := hrel
    clear H0 HB0
    by_cases hlt : k < 32
    · have hlb : decide ((k : Int) < 32) = true := by simp; omega
      have hg : g < w.heap.size := hM.lt
      have hMr : Tab M 42 g 32 32 wr := hM.below HB.out hg
      have hcm := hMr.at_ k hlt
      obtain ⟨hm0, hm1⟩ := hU'.out k hlt
      obtain ⟨x0, hx0⟩ := HT.cell k hlt
      have hf0 := HT.free k
      have hne : g ≠ w.heap.size := by omega
      go_wp2_with fail
      go_region_with (go_at_call 21; refine (matrix_times.calls M g (M k) _ (by first | exact hMr | exact hMr.drewN _) hm0 hm1).mono ?_; rintro e w' ⟨rfl, ⟨nd, rfl⟩⟩)
      all_goals
        go_wp2_with fail
        go_roundw
        case rel => exact ⟨k + 1, by omega, by go_num, ⟨(pw_below_drewN HB.out (1 + nd)).setCell (Nat.le_refl _) _⟩, (HT.drewN (1 + nd)).store hlt⟩
        case measure => simp [intOf]; omega
    · go_wp2_with fail
      go_ret
      obtain rfl : k = 32 := by omega
      exact ⟨rfl, HB.out, HT⟩


/-! ### crc_Zeros: function 16 -/
theorem u32_range (op : BinOp) (a b : Int) : 0 ≤ Go.bits op .u32 a b ∧ Go.bits op .u32 a b < 4294967296 := by
  unfold Go.bits
  split <;> (rw [IntKind.wrap_u32]; omega)
theorem stepI_range (r : Int) (h0 : 0 ≤ r) (h1 : r < 4294967296) : 0 ≤ stepI r ∧ stepI r < 4294967296 := by
  unfold stepI
  split
  · exact u32_range _ _ _
  · omega
theorem iterI_range (r : Int) (h0 : 0 ≤ r) (h1 : r < 4294967296) : ∀ n, 0 ≤ iterI n r ∧ iterI n r < 4294967296
  | 0 => ⟨h0, h1⟩
  | n + 1 => stepI_range _ (iterI_range r h0 h1 n).1 (iterI_range r h0 h1 n).2
theorem tI_range (M : Nat → Int) : ∀ (d i : Nat) (r out : Int), 0 ≤ out → out < 4294967296 → 0 ≤ tI M d i r out ∧ tI M d i r out < 4294967296
  | 0, _, _, out, h0, h1 => ⟨h0, h1⟩
  | d + 1, i, r, out, h0, h1 => by
    simp only [tI]
    split
    · exact ⟨h0, h1⟩
    · split
      · exact tI_range M d _ _ _ (u32_range _ _ _).1 (u32_range _ _ _).2
      · exact tI_range M d _ _ _ h0 h1
theorem twI_U32 (M : Nat → Int) : U32 (twI M) := fun j _ => tI_range M 32 0 (M j) 0 (by omega) (by omega)
def m0 (j : Nat) : Int := iterI 8 (2 ^ j % 4294967296)
theorem m0_U32 : U32 m0 := fun j _ => iterI_range _ (by omega) (by omega) 8
def zI : Nat → Int → (Nat → Int) → Int → Int
  | 0, _, _, r => r
  | d + 1, n, M, r => if n > 0 then zI d (n / 2) (twI M) (if Go.bits .and .i64 n 1 = 1 then tI M 32 0 r 0 else r) else r
theorem zI_done (d : Nat) (n : Int) (M : Nat → Int) (r : Int) (h : ¬ n > 0) : zI d n M r = r := by cases d <;> simp [zI, h]
def crc_Zeros.f (a0 a1 : Int) : Option Int := some (Go.bits .xor .u32 IntKind.u32.max (zI a1.toNat a1 m0 (Go.bits .xor .u32 IntKind.u32.max a0)))
set_option maxHeartbeats 2000000 in
set_option maxRecDepth 100000 in
theorem crc_Zeros.calls (a0 a1 : Int) (r : Int) (w : World) (h : crc_Zeros.f a0 a1 = some r) :
    Calls Try.prog 16 #[.int .u32 a0, .int .i64 a1] w fun e w' => e = .returned (.int .u32 r) ∧ Below w.heap.size w w' := by
  have h' : Go.bits .xor .u32 IntKind.u32.max (zI a1.toNat a1 m0 (Go.bits .xor .u32 IntKind.u32.max a0)) = r := Option.some.inj h
  have H := Aside0.mk h'
  clear h h'
  have H0 := Tab.start m0 42 32 w
  have HB0 := Aside0.mk ((Below.refl w.heap.size w).alloc (Nat.le_refl _) (.cells (zArr .u32 32) 42))
  go_enter Try.func16, Try.ntmps16
  go_wp2_with (first | ((with_reducible refine gate_dst (N := 9) rfl ?_); refine wpList_build 42 rfl rfl (zArr .u32 32) built42 ?_) | ((with_reducible refine gate_dst (N := 10) rfl ?_); refine wpList_box 42 (.tmp 9) (zArr .u32 32) rfl rfl rfl ?_))
  go_loopw [11] (fun i wr => ∃ k : Nat, k ≤ 32 ∧ i = .int .i64 k ∧ Aside0 (Below w.heap.size w wr) ∧ Tab m0 42 w.heap.size 32 k wr) (fun i _ => 32 - (intOf i).toNat)
  case atStart => exact ⟨0, by omega, rfl, HB0, H0⟩
  case round =>
    obtain ⟨k, hk, rfl, HB, HT⟩ := hrel
    clear H0 HB0
    by_cases hlt : k < 32
    · have hlb : decide ((k : Int) < 32) = true := by simp; omega
      go_wp2_with fail
      obtain ⟨wo, rfl⟩ : ∃ wo : World, wo = wr := ⟨_, rfl⟩
      go_loopw [7, 16] (fun r i wq => ∃ m : Nat, m ≤ 8 ∧ i = .int .i64 m ∧ r = .int .u32 (iterI m (2 ^ k % 4294967296)) ∧ Aside0 (Below w.heap.size w wq) ∧ Tab m0 42 w.heap.size 32 k wq) (fun _ i _ => 8 - (intOf i).toNat)
      case atStart => exact ⟨0, by omega, rfl, rfl, HB, HT⟩
      case round =>
        obtain ⟨m, hm, rfl, rfl, HB, HT⟩ := hrel
        by_cases hlm : m < 8
        · go_wp2_with (go_at_call 20; refine (crc_step.calls _ (stepI (iterI m (2 ^ k % 4294967296))) _ (stepI_eq _)).mono ?_; rintro e w' ⟨rfl, ⟨nd, rfl⟩⟩)
          go_roundw
          case rel => exact ⟨m + 1, by omega, by go_num, rfl, ⟨pw_below_drewN HB.out nd⟩, HT.drewN nd⟩
          case measure => simp [intOf]; omega
        · obtain rfl : m = 8 := by omega
          obtain ⟨x0, hx0⟩ := HT.cell k hlt
          have hf0 := HT.free k
          have HS := HT.store hlt
          go_wp2_with fail
          go_roundw
          case rel => exact ⟨k + 1, by omega, by go_num, ⟨HB.out.setCell (Nat.le_refl _) _⟩, HS⟩
          case measure => simp [intOf]; omega
    · have hlb : decide ((k : Int) < 32) = false := by simp; omega
      obtain rfl : k = 32 := by omega
      go_wp2_with fail
      obtain ⟨wo, rfl⟩ : ∃ wo : World, wo = wr := ⟨_, rfl⟩
      have hR := u32_range .xor IntKind.u32.max a0
      generalize Go.bits .xor .u32 IntKind.u32.max a0 = ρ0 at *
      go_loopw [1, 5, 8] (fun n p r wq => ∃ (d : Nat) (ν : Int) (M : Nat → Int) (g : Nat) (ρ : Int), n = .int .i64 ν ∧ p = .pointer (some ⟨g, 0, none⟩) ∧ r = .int .u32 ρ ∧ ν.toNat < 2 ^ d ∧ Aside0 (zI d ν M ρ = zI a1.toNat a1 m0 ρ0) ∧ 0 ≤ ρ ∧ ρ < 4294967296 ∧ Aside0 (U32 M) ∧ Aside0 (Below w.heap.size w wq) ∧ Tab M 42 g 32 32 wq) (fun n _ _ _ => (intOf n).toNat)
      case atStart => exact ⟨a1.toNat, a1, m0, w.heap.size, ρ0, rfl, rfl, rfl, Nat.lt_two_pow_self, ⟨rfl⟩, hR.1, hR.2, ⟨m0_U32⟩, HB, HT⟩
      case round =>
        obtain ⟨d, ν, M, g, ρ, rfl, rfl, rfl, hd, HZ, hρ0, hρ1, HU, HB, HT⟩ := hrel
        by_cases hn : ν > 0
        · obtain ⟨d, rfl⟩ : ∃ d', d = d' + 1 := ⟨d - 1, by
            rcases d with _ | d
            · simp at hd; omega
            · rfl⟩
          have hd2 : Aside0 ((ν / 2).toNat < 2 ^ d) := ⟨by rw [Nat.pow_succ] at hd; omega⟩
          have HE : zI (d + 1) ν M ρ = zI d (ν / 2) (twI M) (if Go.bits .and .i64 ν 1 = 1 then tI M 32 0 ρ 0 else ρ) := by simp only [zI]; rw [if_pos hn]
          have hM2 : Aside0 (U32 (twI M)) := ⟨twI_U32 M⟩
          have hgl := HT.lt
          clear hd
          by_cases hb : Go.bits .and .i64 ν 1 = 1
          · rw [if_pos hb] at HE
            have HX := Aside0.mk (HE.symm.trans HZ.out)
            have hbb : (Go.bits .and .i64 ν 1 == 1) = true := beq_iff_eq.mpr hb
            clear HE HZ hb
            obtain ⟨hτ0, hτ1⟩ := tI_range M 32 0 ρ 0 (by omega) (by omega)
            go_wp2_with (first | (go_at_call 21; refine (matrix_times.calls M g ρ _ HT hρ0 hρ1).mono ?_; rintro e w' ⟨rfl, ⟨nd, rfl⟩⟩) | (go_at_call 22; refine (matrix_twice.calls M g _ (by first | exact HT | exact HT.drewN _) HU.out).mono ?_; rintro e w5 ⟨rfl, hb5, HT5⟩))
            go_roundw
            case rel => exact ⟨d, ν / 2, twI M, wr.heap.size, _, rfl, rfl, rfl, hd2.out, HX, hτ0, hτ1, hM2, ⟨below_then (pw_below_drewN HB.out nd) HB.out.size hb5⟩, HT5⟩
            case measure => simp [intOf]; omega
          · rw [if_neg hb] at HE
            have HX := Aside0.mk (HE.symm.trans HZ.out)
            have hbb : (Go.bits .and .i64 ν 1 == 1) = false := beq_eq_false_iff_ne.mpr hb
            clear HE HZ hb
            go_wp2_with (first | (go_at_call 22; refine (matrix_twice.calls M g _ (by first | exact HT | exact HT.drewN _) HU.out).mono ?_; rintro e w5 ⟨rfl, hb5, HT5⟩))
            go_roundw
            case rel => exact ⟨d, ν / 2, twI M, wr.heap.size, _, rfl, rfl, rfl, hd2.out, HX, hρ0, hρ1, hM2, ⟨below_then HB.out HB.out.size hb5⟩, HT5⟩
            case measure => simp [intOf]; omega
        · have HZ' := HZ.out
          rw [zI_done _ _ _ _ hn] at HZ'
          have H2 : Aside0 (Go.bits .xor .u32 IntKind.u32.max ρ = r) := ⟨by rw [HZ']; exact H.out⟩
          clear HZ' HZ
          go_wp2_with fail
          go_ret
          exact ⟨congrArg (fun z => Ending.returned (.int .u32 z)) H2.out, HB.out⟩

/-! ### stowageref02_More: function 15 -/
mutual
def stowageref02_More.l0 : Nat → List Int → Int → Int → Option (Int)
  | 0, _, _, _ => none
  | k + 1, x1, x5, x6 => if x6 < (x1.length : Int) then (if 0 ≤ x6 then (stowageref02_More.l1 k x1 (Go.bits .xor .u32 x5 ((rd x1 x6) % 4294967296)) x6 0) else (none)) else (some (Go.bits .xor .u32 IntKind.u32.max x5))
def stowageref02_More.l1 : Nat → List Int → Int → Int → Int → Option (Int)
  | 0, _, _, _, _ => none
  | k + 1, x1, x5, x6, x7 => if x7 < 8 then (if (Int.tmod x5 2) = 1 then (stowageref02_More.l1 k x1 (Go.bits .xor .u32 ((Int.tdiv x5 2) % 4294967296) 3988292384) x6 (wrap64 (x7 + 1))) else (stowageref02_More.l1 k x1 ((Int.tdiv x5 2) % 4294967296) x6 (wrap64 (x7 + 1)))) else (stowageref02_More.l0 k x1 x5 (wrap64 (x6 + 1)))
end
def stowageref02_More.f (k : Nat) (a0 : Int) (l1 : List Int) : Option (Int) := stowageref02_More.l0 k l1 (Go.bits .xor .u32 IntKind.u32.max a0) 0
theorem stowageref02_More.mono_l : ∀ k, (∀ y0 y1 y2, LeO (stowageref02_More.l0 k y0 y1 y2) (stowageref02_More.l0 (k + 1) y0 y1 y2)) ∧ (∀ y0 y1 y2 y3, LeO (stowageref02_More.l1 k y0 y1 y2 y3) (stowageref02_More.l1 (k + 1) y0 y1 y2 y3))
  | 0 => ⟨fun _ _ _ r h => by simp [stowageref02_More.l0] at h, fun _ _ _ _ r h => by simp [stowageref02_More.l1] at h⟩
  | k + 1 => by
    obtain ⟨ih0, ih1⟩ := stowageref02_More.mono_l k
    refine ⟨?_, ?_⟩
    · intro y0 y1 y2
      unfold stowageref02_More.l0
      repeat' first
      | (with_reducible exact ih0 _ _ _)
      | (with_reducible exact ih1 _ _ _ _)
      | (with_reducible exact LeO.refl _)
      | (with_reducible exact LeO.none _)
      | (with_reducible refine LeO.ite ?_ ?_)
      | (with_reducible refine LeO.bind ?_ (fun _ => ?_))
      | exact ih0 _ _ _
      | exact ih1 _ _ _ _
      | exact LeO.none _
      | refine LeO.ite ?_ ?_
      | refine LeO.bind ?_ (fun _ => ?_)
    · intro y0 y1 y2 y3
      unfold stowageref02_More.l1
      repeat' first
      | (with_reducible exact ih0 _ _ _)
      | (with_reducible exact ih1 _ _ _ _)
      | (with_reducible exact LeO.refl _)
      | (with_reducible exact LeO.none _)
      | (with_reducible refine LeO.ite ?_ ?_)
      | (with_reducible refine LeO.bind ?_ (fun _ => ?_))
      | exact ih0 _ _ _
      | exact ih1 _ _ _ _
      | exact LeO.none _
      | refine LeO.ite ?_ ?_
      | refine LeO.bind ?_ (fun _ => ?_)
theorem stowageref02_More.mono : ∀ a0 a1 k, LeO (stowageref02_More.f k a0 a1) (stowageref02_More.f (k + 1) a0 a1) := by
  intro a0 a1 k
  obtain ⟨ih0, ih1⟩ := stowageref02_More.mono_l k
  unfold stowageref02_More.f
  repeat' first
      | (with_reducible exact ih0 _ _ _)
      | (with_reducible exact ih1 _ _ _ _)
      | (with_reducible exact LeO.refl _)
      | (with_reducible exact LeO.none _)
      | (with_reducible refine LeO.ite ?_ ?_)
      | (with_reducible refine LeO.bind ?_ (fun _ => ?_))
      | exact ih0 _ _ _
      | exact ih1 _ _ _ _
      | exact LeO.none _
      | refine LeO.ite ?_ ?_
      | refine LeO.bind ?_ (fun _ => ?_)
set_option maxHeartbeats 8000000 in
set_option maxRecDepth 100000 in
theorem stowageref02_More.calls (k : Nat) (a0 : Int) (A1 : Option Addr) (c1 : Nat) (l1 : List Int) (r : Int) (w : World) (hr1 : Kd.C (Kd.int .u8) w A1 l1.length l1) (hc1 : l1.length ≤ c1) (h : stowageref02_More.f k a0 l1 = some r) :
    Calls Try.prog 15 #[.int .u32 a0, .slice A1 l1.length c1] w fun e w' => e = .returned (.int .u32 r) ∧ Drawn0 w w' := by
  have HR1 := Aside0.mk hr1
  have HC1 := Aside0.mk hc1
  clear hr1 hc1
  have H : (stowageref02_More.l0 k l1 (Go.bits .xor .u32 IntKind.u32.max a0) 0) = some r := h
  clear h
  have H' := Aside0.mk H
  clear H
  go_enter Try.func15, Try.ntmps15
  go_wp2
  go_loopg [5, 6] k (fun kq v5 v6 w' => ∃ (x5_1 : Int) (x6_1 : Int), v5 = .int .u32 x5_1 ∧ v6 = .int .i64 x6_1 ∧ Aside0 (stowageref02_More.l0 kq l1 x5_1 x6_1 = some r) ∧ Aside0 (kq ≤ k) ∧ Drawn0 w w')
  case atStart => exact ⟨(Go.bits .xor .u32 IntKind.u32.max a0), (0), (by first | rfl | (simp; done) | (simp [*]; done)), (by first | rfl | (simp; done) | (simp [*]; done)), H', ⟨Nat.le_refl _⟩, by repeat (first | exact Drawn0.refl _ | apply Drawn0.step)⟩
  case round =>
    clear H'
    try clear c1
    try clear p2
    obtain ⟨x5_1, x6_1, rfl, rfl, HA, HK1, ⟨m1, rfl⟩⟩ := hrel
    cases gk with
    | zero => exact absurd HA.out (by simp [stowageref02_More.l0])
    | succ k1 =>
      have H := HA.out
      clear HA
      simp only [stowageref02_More.l0] at H
      by_cases c3 : x6_1 < (l1.length : Int)
      · rw [if_pos c3] at H
        have c3b0 : decide (x6_1 < (l1.length : Int)) = true := decide_eq_true c3
        clear c3
        by_cases c4 : 0 ≤ x6_1
        · rw [if_pos c4] at H
          have c4b0 : decide (0 ≤ x6_1) = true := decide_eq_true c4
          clear c4
          have H' := Aside0.mk H
          clear H
          have p102 : 0 ≤ (x6_1 : Int) := of_decide_eq_true (by first | (with_reducible assumption) | assumption)
          have q102 : x6_1 < (l1.length : Int) := of_decide_eq_true (by first | (with_reducible assumption) | assumption)
          obtain ⟨ad102, e102, hx102_0⟩ := Kd.at_int HR1.out x6_1 p102 q102
          cases e102
          replace p102 := eq_true p102
          replace q102 := eq_true q102
          go_wp2
          go_loopg [5, 7] k1 (fun kq v5 v7 w' => ∃ (x5_2 : Int) (x7_2 : Int), v5 = .int .u32 x5_2 ∧ v7 = .int .i64 x7_2 ∧ Aside0 (stowageref02_More.l1 kq l1 x5_2 x6_1 x7_2 = some r) ∧ Aside0 (kq ≤ k1) ∧ Drawn0 w w')
          case atStart => exact ⟨(Go.bits .xor .u32 x5_1 ((rd l1 x6_1) % 4294967296)), (0), (by first | rfl | (simp; done) | (simp [*]; done)), (by first | rfl | (simp; done) | (simp [*]; done)), H', ⟨Nat.le_refl _⟩, by repeat (first | exact Drawn0.refl _ | apply Drawn0.step)⟩
          case round =>
            clear H'
            try clear c1
            try clear p1
            try clear q1
            try clear hx1
            try clear p2
            try clear c3
            try clear c3b0
            try clear c4
            try clear c4b0
            try clear hx102_0
            try clear p102
            try clear p2
            try clear q102
            obtain ⟨x5_2, x7_2, rfl, rfl, HA, HK2, ⟨m2, rfl⟩⟩ := hrel
            cases gk with
            | zero => exact absurd HA.out (by simp [stowageref02_More.l1])
            | succ k2 =>
              have H := HA.out
              clear HA
              simp only [stowageref02_More.l1] at H
              by_cases c5 : x7_2 < 8
              · rw [if_pos c5] at H
                have c5b0 : decide (x7_2 < 8) = true := decide_eq_true c5
                clear c5
                by_cases c6 : (Int.tmod x5_2 2) = 1
                · rw [if_pos c6] at H
                  have c6b0 : ((Int.tmod x5_2 2) == 1) = true := beq_iff_eq.mpr c6
                  have c6b1 : ((Int.tmod x5_2 2) != 1) = false := bne_eq_false_iff_eq.mpr c6
                  clear c6
                  have H' := Aside0.mk H
                  clear H
                  go_wp2
                  go_roundg k2
                  case measure => have := HK1.out; have := HK2.out; omega
                  case rel => exact ⟨(Go.bits .xor .u32 ((Int.tdiv x5_2 2) % 4294967296) 3988292384), (wrap64 (x7_2 + 1)), (by first | rfl | (simp; done) | (simp [*]; done)), (by first | rfl | (simp; done) | (simp [*]; done)), H', ⟨by have := HK1.out; have := HK2.out; omega⟩, by repeat (first | exact Drawn0.refl _ | apply Drawn0.step)⟩
                · rw [if_neg c6] at H
                  have c6b0 : ((Int.tmod x5_2 2) == 1) = false := beq_eq_false_iff_ne.mpr c6
                  have c6b1 : ((Int.tmod x5_2 2) != 1) = true := bne_iff_ne.mpr c6
                  have H' := Aside0.mk H
                  clear H
                  go_wp2
                  go_roundg k2
                  case measure => have := HK1.out; have := HK2.out; omega
                  case rel => exact ⟨((Int.tdiv x5_2 2) % 4294967296), (wrap64 (x7_2 + 1)), (by first | rfl | (simp; done) | (simp [*]; done)), (by first | rfl | (simp; done) | (simp [*]; done)), H', ⟨by have := HK1.out; have := HK2.out; omega⟩, by repeat (first | exact Drawn0.refl _ | apply Drawn0.step)⟩
              · rw [if_neg c5] at H
                have c5b0 : decide (x7_2 < 8) = false := decide_eq_false c5
                clear c5
                have H' := Aside0.mk H
                clear H
                go_wp2
                go_roundg k2
                case measure => have := HK1.out; have := HK2.out; omega
                case rel => exact ⟨(x5_2), (wrap64 (x6_1 + 1)), (by first | rfl | (simp; done) | (simp [*]; done)), (by first | rfl | (simp; done) | (simp [*]; done)), H', ⟨by have := HK1.out; have := HK2.out; omega⟩, by repeat (first | exact Drawn0.refl _ | apply Drawn0.step)⟩
        · rw [if_neg c4] at H
          exact absurd H (by simp)
      · rw [if_neg c3] at H
        have c3b0 : decide (x6_1 < (l1.length : Int)) = false := decide_eq_false c3
        clear c3
        obtain rfl := Option.some.inj H
        go_wp2
        go_ret
        exact ⟨by first | rfl | (simp; done) | (simp [*]; done), by repeat (first | exact Drawn0.refl _ | apply Drawn0.step)⟩

/-! ### stowageref02_Zeros: function 17 -/
def stowageref02_Zeros.l0 : Nat → Int → Int → Int → Option (Int)
  | 0, _, _, _ => none
  | k + 1, x0, x1, x5 => if x5 < x1 then ((stowageref02_More.f k x0 (([0] : List Int))).bind fun t106 => (stowageref02_Zeros.l0 k t106 x1 (wrap64 (x5 + 1)))) else (some x0)
def stowageref02_Zeros.f (k : Nat) (a0 : Int) (a1 : Int) : Option (Int) := stowageref02_Zeros.l0 k a0 a1 0
theorem stowageref02_Zeros.mono_l : ∀ k, (∀ y0 y1 y2, LeO (stowageref02_Zeros.l0 k y0 y1 y2) (stowageref02_Zeros.l0 (k + 1) y0 y1 y2))
  | 0 => fun _ _ _ r h => by simp [stowageref02_Zeros.l0] at h
  | k + 1 => by
    have ih0 := stowageref02_Zeros.mono_l k
    · intro y0 y1 y2
      unfold stowageref02_Zeros.l0
      repeat' first
      | (with_reducible exact ih0 _ _ _)
      | (with_reducible exact stowageref02_More.mono _ _ _)
      | (with_reducible exact LeO.refl _)
      | (with_reducible exact LeO.none _)
      | (with_reducible refine LeO.ite ?_ ?_)
      | (with_reducible refine LeO.bind ?_ (fun _ => ?_))
      | exact ih0 _ _ _
      | exact stowageref02_More.mono _ _ _
      | exact LeO.none _
      | refine LeO.ite ?_ ?_
      | refine LeO.bind ?_ (fun _ => ?_)
theorem stowageref02_Zeros.mono : ∀ a0 a1 k, LeO (stowageref02_Zeros.f k a0 a1) (stowageref02_Zeros.f (k + 1) a0 a1) := by
  intro a0 a1 k
  have ih0 := stowageref02_Zeros.mono_l k
  unfold stowageref02_Zeros.f
  repeat' first
      | (with_reducible exact ih0 _ _ _)
      | (with_reducible exact stowageref02_More.mono _ _ _)
      | (with_reducible exact LeO.refl _)
      | (with_reducible exact LeO.none _)
      | (with_reducible refine LeO.ite ?_ ?_)
      | (with_reducible refine LeO.bind ?_ (fun _ => ?_))
      | exact ih0 _ _ _
      | exact stowageref02_More.mono _ _ _
      | exact LeO.none _
      | refine LeO.ite ?_ ?_
      | refine LeO.bind ?_ (fun _ => ?_)
set_option maxHeartbeats 8000000 in
set_option maxRecDepth 100000 in
theorem stowageref02_Zeros.calls (k : Nat) (a0 : Int) (a1 : Int) (r : Int) (w : World) (h : stowageref02_Zeros.f k a0 a1 = some r) :
    Calls Try.prog 17 #[.int .u32 a0, .int .i64 a1] w fun e w' => e = .returned (.int .u32 r) ∧ Below w.heap.size w w' := by
  have HB := Aside0.mk (Below.refl w.heap.size w)
  have H : (stowageref02_Zeros.l0 k a0 a1 0) = some r := h
  clear h
  have H' := Aside0.mk H
  clear H
  go_enter Try.func17, Try.ntmps17
  go_wp2
  go_loopg [0, 5] k (fun kq v0 v5 w' => ∃ (x0_1 : Int) (x5_1 : Int), v0 = .int .u32 x0_1 ∧ v5 = .int .i64 x5_1 ∧ Aside0 (stowageref02_Zeros.l0 kq x0_1 a1 x5_1 = some r) ∧ Aside0 (kq ≤ k) ∧ Aside0 (Below w.heap.size w w'))
  case atStart => exact ⟨(a0), (0), (by first | rfl | (simp; done) | (simp [*]; done)), (by first | rfl | (simp; done) | (simp [*]; done)), H', ⟨Nat.le_refl _⟩, ⟨by repeat (first | (with_reducible first | exact HB.out | apply below_alloc | apply pw_below_drewN | apply below_drew1) | exact HB.out)⟩⟩
  case round =>
    clear H'
    try clear c1
    try clear p2
    obtain ⟨x0_1, x5_1, rfl, rfl, HA, HK1, HB⟩ := hrel
    cases gk with
    | zero => exact absurd HA.out (by simp [stowageref02_Zeros.l0])
    | succ k1 =>
      have H := HA.out
      clear HA
      simp only [stowageref02_Zeros.l0] at H
      by_cases c3 : x5_1 < a1
      · rw [if_pos c3] at H
        have c3b0 : decide (x5_1 < a1) = true := decide_eq_true c3
        clear c3
        obtain ⟨y103, hy103⟩ : ∃ y_ : List Int, y_ = (([0] : List Int)) := ⟨_, rfl⟩
        replace H : ((stowageref02_More.f k1 x0_1 y103).bind fun t106 => (stowageref02_Zeros.l0 k1 t106 a1 (wrap64 (x5_1 + 1)))) = some r := by first | (rw [hy103]; with_reducible exact H) | (have H2_ := (Option.bind_some _ _).symm.trans H; rw [hy103]; with_reducible exact H2_) | (have H2_ := (Option.bind_some _ _).symm.trans H; with_reducible exact H2_) | with_reducible exact H | (rw [hy103]; exact H) | exact H
        have Ny103 := Aside0.mk hy103
        clear hy103
        replace H := Option.bind_eq_some_iff.mp H
        obtain ⟨t106, A40, H⟩ := H
        replace H : (stowageref02_Zeros.l0 k1 t106 a1 (wrap64 (x5_1 + 1))) = some r := H
        have A4 := Aside0.mk A40
        clear A40
        have H' := Aside0.mk H
        clear H
        go_wp2_with (first | ((with_reducible refine gate_dst (N := 12) rfl ?_); refine Kd.R_lit (Kd.int .u8) _ 5 ?hg (N := 12) ?hd (xs := ([0] : List Int)) (inner := [.int .u8 0]) (ok := fun _ => True) (okp := fun _ => True) ?hr ?hp (fun _ hk => hk) trivial (Below.refl _ _) (Nat.le_refl _) (by simp) ?_; (case hd => rfl); (case hg => rfl); (case hr => first | (go_simp; done) | (go_simp; rfl)); (case hp => exact (Reps.one (show Kd.M (Kd.int .u8) _ _ _ 0 [.int .u8 0] from rfl) (Reps.none _ _))); intro v104 w5 ho6 hb hg_ hnew_; clear hg_ hnew_; (first | rw [← Ny103.out] at ho6 | (simp only [Int.reduceToNat] at ho6; rw [← Ny103.out] at ho6)); have n0_ := Aside0.mk (Kd.R_lower ho6 (below_size (by repeat (first | (with_reducible first | exact HB.out | apply below_alloc | apply pw_below_drewN | apply below_drew1) | exact HB.out)))); have n1_ := Aside0.mk (below_step (by repeat (first | (with_reducible first | exact HB.out | apply below_alloc | apply pw_below_drewN | apply below_drew1) | exact HB.out)) hb); clear HB; have HO105 := n0_; have HB := n1_; clear n0_ n1_; clear hb ho6; obtain ⟨Ao7, co7, eo7⟩ := Kd.R_slice HO105.out; subst eo7) | ((with_reducible refine gate_callee (f := 15) rfl ?_); refine goesL_ (some 13) rfl rfl Try.func15 (by kernel_rfl) rfl #[.int .u32 x0_1, .slice Ao7 y103.length co7] rfl (by (try simp only [List.map_toArray, List.map_cons, List.map_nil]); first | done | rfl | (simp only [List.length_drop, List.length_take]; rfl)) ?_; (with_reducible refine (stowageref02_More.calls k1 x0_1 _ _ y103 t106 _ ?side1 ?side2 A4.out).mono ?_); (case side1 => repeat (first | exact (Kd.R_reads' HO105.out).2.2 | (with_reducible refine Kd.C_alloc ?_ _) | (with_reducible refine Kd.C_drewN ?_ _) | (with_reducible refine Kd.C_drew ?_))); (case side2 => exact (Kd.R_reads' HO105.out).2.1); rintro e w' ⟨rfl, ⟨nd, rfl⟩⟩; refine ⟨_, rfl, ?_⟩))
        go_roundg k1
        case measure => have := HK1.out; omega
        case rel => exact ⟨(t106), (wrap64 (x5_1 + 1)), (by first | rfl | (simp; done) | (simp [*]; done)), (by first | rfl | (simp; done) | (simp [*]; done)), H', ⟨by have := HK1.out; omega⟩, ⟨by repeat (first | (with_reducible first | exact HB.out | apply below_alloc | apply pw_below_drewN | apply below_drew1) | exact HB.out)⟩⟩
      · rw [if_neg c3] at H
        have c3b0 : decide (x5_1 < a1) = false := decide_eq_false c3
        clear c3
        obtain rfl := Option.some.inj H
        go_wp2
        go_ret
        exact ⟨by first | rfl | (simp [errW_none, errW_some] <;> rfl) | (simp [*, errW_none, errW_some] <;> rfl), by repeat (first | (with_reducible first | exact HB.out | apply below_alloc | apply pw_below_drewN | apply below_drew1) | exact HB.out)⟩

/-! ### stowagelaw02_CrcZeros: function 7 -/
def stowagelaw02_CrcZeros.f (k : Nat) (a0 : Int) (a1 : Int) : Option (Bool) := if a1 > 5000 then ((stowagelaw02_awake.f).bind fun t107 => (if t107 = true then ((crc_Zeros.f a0 5000).bind fun t108 => ((stowageref02_Zeros.f k a0 5000).bind fun t109 => (some (t108 == t109)))) else (some false))) else ((stowagelaw02_awake.f).bind fun t110 => (if t110 = true then ((crc_Zeros.f a0 a1).bind fun t111 => ((stowageref02_Zeros.f k a0 a1).bind fun t112 => (some (t111 == t112)))) else (some false)))
theorem stowagelaw02_CrcZeros.mono : ∀ a0 a1 k, LeO (stowagelaw02_CrcZeros.f k a0 a1) (stowagelaw02_CrcZeros.f (k + 1) a0 a1) := by
  intro a0 a1 k
  unfold stowagelaw02_CrcZeros.f
  repeat' first
      | (with_reducible exact stowageref02_Zeros.mono _ _ _)
      | (with_reducible exact LeO.refl _)
      | (with_reducible exact LeO.none _)
      | (with_reducible refine LeO.ite ?_ ?_)
      | (with_reducible refine LeO.bind ?_ (fun _ => ?_))
      | exact stowageref02_Zeros.mono _ _ _
      | exact LeO.none _
      | refine LeO.ite ?_ ?_
      | refine LeO.bind ?_ (fun _ => ?_)
set_option maxHeartbeats 8000000 in
set_option maxRecDepth 100000 in
theorem stowagelaw02_CrcZeros.calls (k : Nat) (a0 : Int) (a1 : Int) (r : Bool) (w : World) (h : stowagelaw02_CrcZeros.f k a0 a1 = some r) :
    Calls Try.prog 7 #[.int .u32 a0, .int .i64 a1] w fun e w' => e = .returned (.bool r) ∧ Below w.heap.size w w' := by
  have HB := Aside0.mk (Below.refl w.heap.size w)
  have H : (if a1 > 5000 then ((stowagelaw02_awake.f).bind fun t107 => (if t107 = true then ((crc_Zeros.f a0 5000).bind fun t108 => ((stowageref02_Zeros.f k a0 5000).bind fun t109 => (some (t108 == t109)))) else (some false))) else ((stowagelaw02_awake.f).bind fun t110 => (if t110 = true then ((crc_Zeros.f a0 a1).bind fun t111 => ((stowageref02_Zeros.f k a0 a1).bind fun t112 => (some (t111 == t112)))) else (some false)))) = some r := h
  clear h
  by_cases c3 : a1 > 5000
  · rw [if_pos c3] at H
    have c3b0 : decide (5000 < a1) = true := decide_eq_true c3
    clear c3
    replace H := Option.bind_eq_some_iff.mp H
    obtain ⟨t107, A40, H⟩ := H
    replace H : (if t107 = true then ((crc_Zeros.f a0 5000).bind fun t108 => ((stowageref02_Zeros.f k a0 5000).bind fun t109 => (some (t108 == t109)))) else (some false)) = some r := H
    have A4 := Aside0.mk A40
    clear A40
    by_cases c5 : t107 = true
    · subst c5
      have H1 : ((crc_Zeros.f a0 5000).bind fun t108 => ((stowageref02_Zeros.f k a0 5000).bind fun t109 => (some (t108 == t109)))) = some r := by rw [if_pos rfl] at H; exact H
      clear H
      have H := H1
      clear H1
      replace H := Option.bind_eq_some_iff.mp H
      obtain ⟨t108, A60, H⟩ := H
      replace H : ((stowageref02_Zeros.f k a0 5000).bind fun t109 => (some (t108 == t109))) = some r := H
      have A6 := Aside0.mk A60
      clear A60
      replace H := Option.bind_eq_some_iff.mp H
      obtain ⟨t109, A70, H⟩ := H
      replace H : (some (t108 == t109)) = some r := H
      have A7 := Aside0.mk A70
      clear A70
      obtain rfl := Option.some.inj H
      go_enter Try.func7, Try.ntmps7
      go_wp2_with (first | ((with_reducible refine gate_callee (f := 11) rfl ?_); refine goesL_ (some 7) rfl rfl Try.func11 (by kernel_rfl) rfl #[] rfl (by (try simp only [List.map_toArray, List.map_cons, List.map_nil]); first | done | rfl | (simp only [List.length_drop, List.length_take]; rfl)) ?_; (with_reducible refine (stowagelaw02_awake.calls  true _ A4.out).mono ?_); rintro e w8 ⟨rfl, hb⟩; refine ⟨_, rfl, ?_⟩; have n0_ := Aside0.mk (below_step (by repeat (first | (with_reducible first | exact HB.out | apply below_alloc | apply pw_below_drewN | apply below_drew1) | exact HB.out)) hb); clear HB; have HB := n0_; clear n0_; (try clear hb); (try clear hb2); (try clear hk); (try clear hi)) | (go_at_call 16; (with_reducible refine (crc_Zeros.calls a0 5000 t108 _ A6.out).mono ?_); rintro e w9 ⟨rfl, hb⟩; have n0_ := Aside0.mk (below_step (by repeat (first | (with_reducible first | exact HB.out | apply below_alloc | apply pw_below_drewN | apply below_drew1) | exact HB.out)) hb); clear HB; have HB := n0_; clear n0_; (try clear hb); (try clear hb2); (try clear hk); (try clear hi)) | (go_at_call 17; (with_reducible refine (stowageref02_Zeros.calls k a0 5000 t109 _ A7.out).mono ?_); rintro e w10 ⟨rfl, hb⟩; have n0_ := Aside0.mk (below_step (by repeat (first | (with_reducible first | exact HB.out | apply below_alloc | apply pw_below_drewN | apply below_drew1) | exact HB.out)) hb); clear HB; have HB := n0_; clear n0_; (try clear hb); (try clear hb2); (try clear hk); (try clear hi)))
      go_ret
      exact ⟨by first | rfl | (simp [errW_none, errW_some] <;> rfl) | (simp [*, errW_none, errW_some] <;> rfl), by repeat (first | (with_reducible first | exact HB.out | apply below_alloc | apply pw_below_drewN | apply below_drew1) | exact HB.out)⟩
    · replace c5 := Bool.eq_false_iff.mpr c5
      subst c5
      have H1 : (some false) = some r := by rw [if_neg (show ¬ (false = true) by decide)] at H; exact H
      clear H
      have H := H1
      clear H1
      obtain rfl := Option.some.inj H
      go_enter Try.func7, Try.ntmps7
      go_wp2_with (first | ((with_reducible refine gate_callee (f := 11) rfl ?_); refine goesL_ (some 7) rfl rfl Try.func11 (by kernel_rfl) rfl #[] rfl (by (try simp only [List.map_toArray, List.map_cons, List.map_nil]); first | done | rfl | (simp only [List.length_drop, List.length_take]; rfl)) ?_; (with_reducible refine (stowagelaw02_awake.calls  false _ A4.out).mono ?_); rintro e w11 ⟨rfl, hb⟩; refine ⟨_, rfl, ?_⟩; have n0_ := Aside0.mk (below_step (by repeat (first | (with_reducible first | exact HB.out | apply below_alloc | apply pw_below_drewN | apply below_drew1) | exact HB.out)) hb); clear HB; have HB := n0_; clear n0_; (try clear hb); (try clear hb2); (try clear hk); (try clear hi)))
      go_ret
      exact ⟨by first | rfl | (simp [errW_none, errW_some] <;> rfl) | (simp [*, errW_none, errW_some] <;> rfl), by repeat (first | (with_reducible first | exact HB.out | apply below_alloc | apply pw_below_drewN | apply below_drew1) | exact HB.out)⟩
  · rw [if_neg c3] at H
    have c3b0 : decide (5000 < a1) = false := decide_eq_false c3
    clear c3
    replace H := Option.bind_eq_some_iff.mp H
    obtain ⟨t110, A120, H⟩ := H
    replace H : (if t110 = true then ((crc_Zeros.f a0 a1).bind fun t111 => ((stowageref02_Zeros.f k a0 a1).bind fun t112 => (some (t111 == t112)))) else (some false)) = some r := H
    have A12 := Aside0.mk A120
    clear A120
    by_cases c13 : t110 = true
    · subst c13
      have H1 : ((crc_Zeros.f a0 a1).bind fun t111 => ((stowageref02_Zeros.f k a0 a1).bind fun t112 => (some (t111 == t112)))) = some r := by rw [if_pos rfl] at H; exact H
      clear H
      have H := H1
      clear H1
      replace H := Option.bind_eq_some_iff.mp H
      obtain ⟨t111, A140, H⟩ := H
      replace H : ((stowageref02_Zeros.f k a0 a1).bind fun t112 => (some (t111 == t112))) = some r := H
      have A14 := Aside0.mk A140
      clear A140
      replace H := Option.bind_eq_some_iff.mp H
      obtain ⟨t112, A150, H⟩ := H
      replace H : (some (t111 == t112)) = some r := H
      have A15 := Aside0.mk A150
      clear A150
      obtain rfl := Option.some.inj H
      go_enter Try.func7, Try.ntmps7
      go_wp2_with (first | ((with_reducible refine gate_callee (f := 11) rfl ?_); refine goesL_ (some 7) rfl rfl Try.func11 (by kernel_rfl) rfl #[] rfl (by (try simp only [List.map_toArray, List.map_cons, List.map_nil]); first | done | rfl | (simp only [List.length_drop, List.length_take]; rfl)) ?_; (with_reducible refine (stowagelaw02_awake.calls  true _ A12.out).mono ?_); rintro e w16 ⟨rfl, hb⟩; refine ⟨_, rfl, ?_⟩; have n0_ := Aside0.mk (below_step (by repeat (first | (with_reducible first | exact HB.out | apply below_alloc | apply pw_below_drewN | apply below_drew1) | exact HB.out)) hb); clear HB; have HB := n0_; clear n0_; (try clear hb); (try clear hb2); (try clear hk); (try clear hi)) | (go_at_call 16; (with_reducible refine (crc_Zeros.calls a0 a1 t111 _ A14.out).mono ?_); rintro e w17 ⟨rfl, hb⟩; have n0_ := Aside0.mk (below_step (by repeat (first | (with_reducible first | exact HB.out | apply below_alloc | apply pw_below_drewN | apply below_drew1) | exact HB.out)) hb); clear HB; have HB := n0_; clear n0_; (try clear hb); (try clear hb2); (try clear hk); (try clear hi)) | (go_at_call 17; (with_reducible refine (stowageref02_Zeros.calls k a0 a1 t112 _ A15.out).mono ?_); rintro e w18 ⟨rfl, hb⟩; have n0_ := Aside0.mk (below_step (by repeat (first | (with_reducible first | exact HB.out | apply below_alloc | apply pw_below_drewN | apply below_drew1) | exact HB.out)) hb); clear HB; have HB := n0_; clear n0_; (try clear hb); (try clear hb2); (try clear hk); (try clear hi)))
      go_ret
      exact ⟨by first | rfl | (simp [errW_none, errW_some] <;> rfl) | (simp [*, errW_none, errW_some] <;> rfl), by repeat (first | (with_reducible first | exact HB.out | apply below_alloc | apply pw_below_drewN | apply below_drew1) | exact HB.out)⟩
    · replace c13 := Bool.eq_false_iff.mpr c13
      subst c13
      have H1 : (some false) = some r := by rw [if_neg (show ¬ (false = true) by decide)] at H; exact H
      clear H
      have H := H1
      clear H1
      obtain rfl := Option.some.inj H
      go_enter Try.func7, Try.ntmps7
      go_wp2_with (first | ((with_reducible refine gate_callee (f := 11) rfl ?_); refine goesL_ (some 7) rfl rfl Try.func11 (by kernel_rfl) rfl #[] rfl (by (try simp only [List.map_toArray, List.map_cons, List.map_nil]); first | done | rfl | (simp only [List.length_drop, List.length_take]; rfl)) ?_; (with_reducible refine (stowagelaw02_awake.calls  false _ A12.out).mono ?_); rintro e w19 ⟨rfl, hb⟩; refine ⟨_, rfl, ?_⟩; have n0_ := Aside0.mk (below_step (by repeat (first | (with_reducible first | exact HB.out | apply below_alloc | apply pw_below_drewN | apply below_drew1) | exact HB.out)) hb); clear HB; have HB := n0_; clear n0_; (try clear hb); (try clear hb2); (try clear hk); (try clear hi)))
      go_ret
      exact ⟨by first | rfl | (simp [errW_none, errW_some] <;> rfl) | (simp [*, errW_none, errW_some] <;> rfl), by repeat (first | (with_reducible first | exact HB.out | apply below_alloc | apply pw_below_drewN | apply below_drew1) | exact HB.out)⟩

/-- THE ONE PURE STATEMENT of stowagelaw02_CrcZeros: yours. -/
def stowagelaw02_CrcZeros.Pure : Prop := ∀ (a0 : Int) (a1 : Int), (Lit.int .u32 a0).wf = true → (Lit.int .i64 a1).wf = true → ∃ k, stowagelaw02_CrcZeros.f k a0 a1 = some true
theorem stowagelaw02_CrcZeros.walk (P : stowagelaw02_CrcZeros.Pure) (a0 : Int) (a1 : Int) (w : World) (w0 : (Lit.int .u32 a0).wf = true) (w1 : (Lit.int .i64 a1).wf = true) :
    Calls Try.prog 7 #[.int .u32 a0, .int .i64 a1] w fun e w' => e = .returned (.bool true) ∧ Below w.heap.size w w' := by
  obtain ⟨k, h⟩ := P a0 a1 w0 w1
  refine (stowagelaw02_CrcZeros.calls k a0 a1 true w h).mono ?_
  rintro e w' ⟨rfl, hd⟩
  exact ⟨rfl, hd⟩

end Go.Proofs.Ytcjnbcfhbiijbaa.QCrcZeros
