/- Written by a program of this session (wip/tools/mk.py) out of the kit's printing programs and of texts of our own: the contracts of the Go functions that the law goes through, and the row of the law. No condition is added. -/
import Derived.Test.YtcjnbcfhbiijbaaQCrcThreex0
namespace Go.Proofs.Ytcjnbcfhbiijbaa.QCrcThree
open Go.RowKit Go.Proofs.YtcjnbcfhbiijbaaW.PrintWords Go.Proofs.YtcjnbcfhbiijbaaW.PrintLast Go.Proofs.YtcjnbcfhbiijbaaW.PrintMore
attribute [local go_sem] max2_int min2_int max_two min_two max_three min_three max_four min_four   -- for this text's walks alone
set_option linter.unusedVariables false
set_option linter.unusedSimpArgs false

/-! ### crc_step: function 20 -/
def crc_step.f (a0 : Int) : Option (Int) := if (Go.bits .and .u32 a0 1) = 1 then (some (Go.bits .xor .u32 (a0 / 2) 3988292384)) else (some (a0 / 2))
set_option maxHeartbeats 8000000 in
set_option maxRecDepth 100000 in
theorem crc_step.calls (a0 : Int) (r : Int) (w : World) (h : crc_step.f a0 = some r) :
    Calls Try.prog 20 #[.int .u32 a0] w fun e w' => e = .returned (.int .u32 r) ∧ Drawn0 w w' := by
  have H : (if (Go.bits .and .u32 a0 1) = 1 then (some (Go.bits .xor .u32 (a0 / 2) 3988292384)) else (some (a0 / 2))) = some r := h
  clear h
  by_cases c2 : (Go.bits .and .u32 a0 1) = 1
  · rw [if_pos c2] at H
    have c2b0 : ((Go.bits .and .u32 a0 1) == 1) = true := beq_iff_eq.mpr c2
    have c2b1 : ((Go.bits .and .u32 a0 1) != 1) = false := bne_eq_false_iff_eq.mpr c2
    clear c2
    obtain rfl := Option.some.inj H
    go_enter Try.func20, Try.ntmps20
    go_wp2
    go_ret
    exact ⟨by first | rfl | (simp; done) | (simp [*]; done), by repeat (first | exact Drawn0.refl _ | apply Drawn0.step)⟩
  · rw [if_neg c2] at H
    have c2b0 : ((Go.bits .and .u32 a0 1) == 1) = false := beq_eq_false_iff_ne.mpr c2
    have c2b1 : ((Go.bits .and .u32 a0 1) != 1) = true := bne_iff_ne.mpr c2
    obtain rfl := Option.some.inj H
    go_enter Try.func20, Try.ntmps20
    go_wp2
    go_ret
    exact ⟨by first | rfl | (simp; done) | (simp [*]; done), by repeat (first | exact Drawn0.refl _ | apply Drawn0.step)⟩

/-! ### crc_rows: function 19 -/
section
variable {P : Program} {ops : Array Oper} {rest : List Oper} {o : Oper} {a : Act} {Q : Exit → Act → World → Prop} {w w' : World}
theorem wpList_value {v : Value} (hg : o.guard = none) (hr : (execOp a.eval o).run P w = .ok (.value v) w') (h : wpList P ops Q rest (a.put o.dst v) w') : wpList P ops Q (o :: rest) a w := by
  refine wpList_plain hg fun K hK => ?_
  unfold Oper.wp
  rw [hr]
  exact hK _ _ h
theorem wpList_build (t : TypeId) (hg : o.guard = none) (ho : o.op = .build t #[]) (cells : Array Value) (hb : P.built t [] = some cells) (h : wpList P ops Q rest (a.put o.dst (.agg cells)) w) : wpList P ops Q (o :: rest) a w := by
  refine wpList_value hg ?_ h
  unfold execOp
  simp only [ho, List.map_toArray, List.map_nil, Sem.run_bind]
  rw [run_build w t _ cells (by simpa using hb)]
  rfl
theorem wpList_box (t : TypeId) (x : Operand) (cells : Array Value) (hg : o.guard = none) (ho : o.op = .box t x) (hx : a.eval x = .agg cells) (h : wpList P ops Q rest (a.put o.dst (.pointer (some ⟨w.heap.size, 0, none⟩))) (w.alloc (.cells cells t))) : wpList P ops Q (o :: rest) a w := by
  refine wpList_value hg ?_ h
  unfold execOp
  simp only [ho, hx, Sem.run_bind]
  simp [Instr.box, newVar, go_sem]
end

/-- An array of n whole numbers 0. -/
def zArr (k : IntKind) (n : Nat) : Array Value := (List.replicate n (Value.int k 0)).toArray
theorem built46 : Try.prog.built 46 [] = some (zArr .u32 256) := by kernel_rfl

def stepI (r : Int) : Int := if Go.bits .and .u32 r 1 = 1 then Go.bits .xor .u32 (r / 2) 3988292384 else r / 2
theorem stepI_eq (r : Int) : crc_step.f r = some (stepI r) := by unfold crc_step.f stepI; split <;> rfl
def iterI : Nat → Int → Int
  | 0, r => r
  | n + 1, r => stepI (iterI n r)
def tabT (j : Nat) : Int := iterI 8 (j : Int)
/-- Block b holds n whole numbers of which the first k are told by T. -/
structure Tab (T : Nat → Int) (t b n k : Nat) (wr : World) : Prop where mk ::
  (out : ∃ cs : Array Value, wr.heap[b]? = some (.cells cs t (0, 0)) ∧ cs.size = n ∧ (∀ j, j < n → ∃ x, cs[j]? = some (.int .u32 x)) ∧ ∀ j, j < k → cs[j]? = some (.int .u32 (T j)))
theorem Tab.start (T : Nat → Int) (t n : Nat) (w : World) : Tab T t w.heap.size n 0 (w.alloc (.cells (zArr .u32 n) t)) :=
  ⟨zArr .u32 n, heap_alloc_new w _, by simp [zArr], fun j hj => ⟨0, by simp [zArr, hj]⟩, fun j hj => by omega⟩
theorem Tab.lt {T : Nat → Int} {t b n k : Nat} {wr : World} (h : Tab T t b n k wr) : b < wr.heap.size := by
  obtain ⟨cs, h1, _⟩ := h.out
  exact (Array.getElem?_eq_some_iff.1 h1).1
theorem Tab.cell {T : Nat → Int} {t b n k : Nat} {wr : World} (h : Tab T t b n k wr) (j : Nat) (hj : j < n) : ∃ x, wr.cell? ⟨b, j, none⟩ = some (.int .u32 x) := by
  obtain ⟨cs, h1, _, h2, _⟩ := h.out
  obtain ⟨x, hx⟩ := h2 j hj
  exact ⟨x, by simp [World.cell?, h1, hx]⟩
theorem Tab.at_ {T : Nat → Int} {t b n k : Nat} {wr : World} (h : Tab T t b n k wr) (j : Nat) (hj : j < k) : wr.cell? ⟨b, j, none⟩ = some (.int .u32 (T j)) := by
  obtain ⟨cs, h1, _, _, h2⟩ := h.out
  simp [World.cell?, h1, h2 j hj]
theorem Tab.free {T : Nat → Int} {t b n k : Nat} {wr : World} (h : Tab T t b n k wr) (j : Nat) : wr.frozen? ⟨b, j, none⟩ = false := by
  obtain ⟨cs, h1, _⟩ := h.out
  simp [World.frozen?, h1]
theorem Tab.drewN {T : Nat → Int} {t b n k : Nat} {wr : World} (h : Tab T t b n k wr) (m : Nat) : Tab T t b n k (wr.drewN m) := ⟨h.out⟩
theorem Tab.below {T : Nat → Int} {t b n k B : Nat} {wr w' : World} (h : Tab T t b n k wr) (hb : Below B wr w') (hB : b < B) : Tab T t b n k w' := by
  obtain ⟨cs, h1, h2⟩ := h.out
  exact ⟨cs, by rw [hb.block b hB]; exact h1, h2⟩
theorem Tab.store {T : Nat → Int} {t b n k : Nat} {wr : World} (h : Tab T t b n k wr) (hk : k < n) : Tab T t b n (k + 1) (wr.setCell ⟨b, k, none⟩ (.int .u32 (T k))) := by
  obtain ⟨cs, h1, h2, h3, h4⟩ := h.out
  refine ⟨cs.setIfInBounds k (.int .u32 (T k)), ?_, by simpa using h2, fun j hj => ?_, fun j hj => ?_⟩
  · simp [World.setCell, Array.getElem?_modify, h1]
  · by_cases e : k = j
    · subst e; exact ⟨T k, by simp [Array.getElem?_setIfInBounds, h2, hk]⟩
    · obtain ⟨x, hx⟩ := h3 j hj
      exact ⟨x, by simp [Array.getElem?_setIfInBounds, e, hx]⟩
  · by_cases e : k = j
    · subst e; simp [Array.getElem?_setIfInBounds, h2, hk]
    · simp [Array.getElem?_setIfInBounds, e, h4 j (by omega)]

set_option maxHeartbeats 1000000 in
set_option maxRecDepth 100000 in
theorem crc_rows.calls (w : World) : Calls Try.prog 19 #[] w fun e w' => e = .returned (.pointer (some ⟨w.heap.size, 0, none⟩)) ∧ Below w.heap.size w w' ∧ Tab tabT 46 w.heap.size 256 256 w' := by
  have H0 := Tab.start tabT 46 256 w
  have HB0 := Aside0.mk ((Below.refl w.heap.size w).alloc (Nat.le_refl _) (.cells (zArr .u32 256) 46))
  go_enter Try.func19, Try.ntmps19
  go_wp2_with (first | ((with_reducible refine gate_dst (N := 4) rfl ?_); refine wpList_build 46 rfl rfl (zArr .u32 256) built46 ?_) | ((with_reducible refine gate_dst (N := 5) rfl ?_); refine wpList_box 46 (.tmp 4) (zArr .u32 256) rfl rfl rfl ?_))
  go_loopw [6] (fun i wr => ∃ k : Nat, k ≤ 256 ∧ i = .int .i64 k ∧ Aside0 (Below w.heap.size w wr) ∧ Tab tabT 46 w.heap.size 256 k wr) (fun i _ => 256 - (intOf i).toNat)
  case atStart => exact ⟨0, by omega, rfl, HB0, H0⟩
  case round =>
    obtain ⟨k, hk, rfl, HB, HT⟩ := hrel
    clear H0 HB0
    by_cases hlt : k < 256
    · have hlb : decide ((k : Int) < 256) = true := by simp; omega
      go_wp2_with fail
      obtain ⟨wo, rfl⟩ : ∃ wo : World, wo = wr := ⟨_, rfl⟩
      go_loopw [3, 11] (fun r i wq => ∃ m : Nat, m ≤ 8 ∧ i = .int .i64 m ∧ r = .int .u32 (iterI m (k : Int)) ∧ Aside0 (Below w.heap.size w wq) ∧ Tab tabT 46 w.heap.size 256 k wq) (fun _ i _ => 8 - (intOf i).toNat)
      case atStart => exact ⟨0, by omega, rfl, rfl, HB, HT⟩
      case round =>
        obtain ⟨m, hm, rfl, rfl, HB, HT⟩ := hrel
        by_cases hlm : m < 8
        · go_wp2_with (go_at_call 20; refine (crc_step.calls _ (stepI (iterI m (k : Int))) _ (stepI_eq _)).mono ?_; rintro e w' ⟨rfl, ⟨nd, rfl⟩⟩)
          go_roundw
          case rel =>
            exact ⟨m + 1, by omega, by go_num, rfl, ⟨pw_below_drewN HB.out nd⟩, HT.drewN nd⟩
          case measure => simp [intOf]; omega
        · obtain rfl : m = 8 := by omega
          obtain ⟨x0, hx0⟩ := HT.cell k hlt
          have hf0 := HT.free k
          have HS := HT.store hlt
          go_wp2_with fail
          go_roundw
          case rel => exact ⟨k + 1, by omega, by go_num, ⟨HB.out.setCell (Nat.le_refl _) _⟩, HS⟩
          case measure => simp [intOf]; omega
    · go_wp2_with fail
      go_ret
      obtain rfl : k = 256 := by omega
      exact ⟨rfl, HB.out, HT⟩


/-! ### crc_More: function 14 -/
def moreStep (r x : Int) : Int := Go.bits .xor .u32 (r / 256) (tabT (Go.bits .xor .u8 (r % 256) x).toNat)
def crc_More.f (a0 : Int) (l1 : List Int) : Option Int := some (Go.bits .xor .u32 IntKind.u32.max (l1.foldl moreStep (Go.bits .xor .u32 IntKind.u32.max a0)))
theorem foldl_take (f : Int → Int → Int) (a : Int) (l : List Int) (k : Nat) (h : k < l.length) : (l.take (k + 1)).foldl f a = f ((l.take k).foldl f a) (rd l (k : Int)) := by
  rw [List.take_succ_eq_append_getElem h, List.foldl_append]
  simp [rd, List.getD_eq_getElem?_getD, List.getElem?_eq_getElem h]
theorem u8_range (a b : Int) : 0 ≤ Go.bits .xor .u8 a b ∧ Go.bits .xor .u8 a b < 256 := by
  unfold Go.bits
  split <;> (rw [IntKind.wrap_u8]; omega)
set_option maxHeartbeats 1000000 in
set_option maxRecDepth 100000 in
theorem crc_More.calls (a0 : Int) (A1 : Option Addr) (c1 : Nat) (l1 : List Int) (r : Int) (w : World) (hr1 : Kd.C (Kd.int .u8) w A1 l1.length l1) (hc1 : l1.length ≤ c1) (h : crc_More.f a0 l1 = some r) :
    Calls Try.prog 14 #[.int .u32 a0, .slice A1 l1.length c1] w fun e w' => e = .returned (.int .u32 r) ∧ Below w.heap.size w w' := by
  have HR1 := Aside0.mk hr1
  have HL := hr1.2.1
  clear hr1 hc1
  have h' : Go.bits .xor .u32 IntKind.u32.max (l1.foldl moreStep (Go.bits .xor .u32 IntKind.u32.max a0)) = r := Option.some.inj h
  have H := Aside0.mk h'
  clear h h'
  go_enter Try.func14, Try.ntmps14
  go_wp2_with (go_at_call 19; refine (crc_rows.calls _).mono ?_; rintro e w1 ⟨rfl, hb, HT⟩)
  go_loopw [6, 14] (fun r i wr => ∃ k : Nat, k ≤ l1.length ∧ i = .int .i64 k ∧ r = .int .u32 ((l1.take k).foldl moreStep (Go.bits .xor .u32 IntKind.u32.max a0)) ∧ Aside0 (Below w.heap.size w wr) ∧ Tab tabT 46 w.heap.size 256 256 wr) (fun _ i _ => l1.length - (intOf i).toNat)
  case atStart => exact ⟨0, by omega, rfl, rfl, ⟨hb⟩, HT⟩
  case round =>
    obtain ⟨k, hk, rfl, rfl, HB, HT⟩ := hrel
    clear hb
    by_cases hlt : k < l1.length
    · have hlb : decide ((k : Int) < (l1.length : Int)) = true := by simp; omega
      obtain ⟨ad, rfl, hx⟩ := Kd.at_int HR1.out (k : Int) (by omega) (by omega)
      replace hx := (HB.out.cell (World.block_lt_of_cell? w _ hx)).trans hx
      rw [Int.toNat_natCast] at hx
      have HF := Aside0.mk (foldl_take moreStep (Go.bits .xor .u32 IntKind.u32.max a0) l1 k hlt)
      generalize (l1.take k).foldl moreStep (Go.bits .xor .u32 IntKind.u32.max a0) = s at *
      obtain ⟨hq0, hq1⟩ := u8_range (s % 256) (rd l1 (k : Int))
      have HQ : Aside0 (moreStep s (rd l1 (k : Int)) = Go.bits .xor .u32 (s / 256) (tabT (Go.bits .xor .u8 (s % 256) (rd l1 (k : Int))).toNat)) := Aside0.mk rfl
      obtain ⟨q, hq⟩ := Int.eq_ofNat_of_zero_le hq0
      rw [hq] at HQ hq1
      clear hq0
      have hc := HT.at_ q (by omega)
      go_wp2_with fail
      go_roundw
      case rel => exact ⟨k + 1, by omega, by go_num, by rw [HF.out, HQ.out]; rfl, HB, HT⟩
      case measure => simp [intOf]; omega
    · go_wp2_with fail
      go_ret
      obtain rfl : k = l1.length := by omega
      exact ⟨congrArg (fun z => Ending.returned (.int .u32 z)) (by rw [List.take_length]; exact H.out), HB.out⟩


/-! ### crc_Sum: function 12 -/
def crc_Sum.f (l0 : List Int) : Option (Int) := (crc_More.f 0 l0).bind fun t101 => (some t101)
set_option maxHeartbeats 8000000 in
set_option maxRecDepth 100000 in
theorem crc_Sum.calls (A0 : Option Addr) (c0 : Nat) (l0 : List Int) (r : Int) (w : World) (hr0 : Kd.C (Kd.int .u8) w A0 l0.length l0) (hc0 : l0.length ≤ c0) (h : crc_Sum.f l0 = some r) :
    Calls Try.prog 12 #[.slice A0 l0.length c0] w fun e w' => e = .returned (.int .u32 r) ∧ Below w.heap.size w w' := by
  have HR0 := Aside0.mk hr0
  have HC0 := Aside0.mk hc0
  clear hr0 hc0
  have HB := Aside0.mk (Below.refl w.heap.size w)
  have H : ((crc_More.f 0 l0).bind fun t101 => (some t101)) = some r := h
  clear h
  replace H := Option.bind_eq_some_iff.mp H
  obtain ⟨t101, A20, H⟩ := H
  replace H : (some t101) = some r := H
  have A2 := Aside0.mk A20
  clear A20
  obtain rfl := Option.some.inj H
  go_enter Try.func12, Try.ntmps12
  go_wp2_with (first | ((with_reducible refine gate_callee (f := 14) rfl ?_); refine goesL_ (some 4) rfl rfl Try.func14 (by kernel_rfl) rfl #[.int .u32 0, .slice A0 l0.length c0] rfl (by (try simp only [List.map_toArray, List.map_cons, List.map_nil]); first | done | rfl | (simp only [List.length_drop, List.length_take]; rfl)) ?_; (with_reducible refine (crc_More.calls 0 _ _ l0 t101 _ ?side1 ?side2 A2.out).mono ?_); (case side1 => repeat (first | exact HR0.out | (with_reducible refine Kd.C_alloc ?_ _) | (with_reducible refine Kd.C_drewN ?_ _) | (with_reducible refine Kd.C_drew ?_))); (case side2 => exact HC0.out); rintro e w3 ⟨rfl, hb⟩; refine ⟨_, rfl, ?_⟩; have n0_ := Aside0.mk (below_step (by repeat (first | (with_reducible first | exact HB.out | apply below_alloc | apply pw_below_drewN | apply below_drew1) | exact HB.out)) hb); clear HB; have HB := n0_; clear n0_; (try clear hb); (try clear hb2); (try clear hk); (try clear hi)))
  go_ret
  exact ⟨by first | rfl | (simp [errW_none, errW_some] <;> rfl) | (simp [*, errW_none, errW_some] <;> rfl), by repeat (first | (with_reducible first | exact HB.out | apply below_alloc | apply pw_below_drewN | apply below_drew1) | exact HB.out)⟩

/-! ### stowagelaw02_awake: function 11 -/
def nine : List Int := [49, 50, 51, 52, 53, 54, 55, 56, 57]
def nineC : Array Value := #[.int .u8 49, .int .u8 50, .int .u8 51, .int .u8 52, .int .u8 53, .int .u8 54, .int .u8 55, .int .u8 56, .int .u8 57]
theorem nine_at : ∀ j, j < 9 → nineC[j]? = some (.int .u8 (nine.getD j 0)) := by
  intro j hj
  have : j = 0 ∨ j = 1 ∨ j = 2 ∨ j = 3 ∨ j = 4 ∨ j = 5 ∨ j = 6 ∨ j = 7 ∨ j = 8 := by omega
  rcases this with rfl | rfl | rfl | rfl | rfl | rfl | rfl | rfl | rfl <;> rfl
theorem nine_reads (w W : World) (t : TypeId) (fr : Nat × Nat) (b : Nat) (h : W.heap[b]? = some (.cells nineC t fr)) : Kd.C (Kd.int .u8) W (some ⟨b, 0, none⟩) nine.length nine := by
  refine Kd.C_of_reads (d := (0 : Int)) (h1 := fun _ => rfl) ⟨rfl, by decide, fun _ => ⟨_, rfl, fun j hj => ?_⟩⟩
  rw [add_plain]
  simp only [World.cell?, h]
  exact nine_at j hj
theorem none_reads (W : World) : Kd.C (Kd.int .u8) W none ([] : List Int).length [] :=
  Kd.C_of_reads (d := (0 : Int)) (h1 := fun _ => rfl) ⟨rfl, by decide, fun h => absurd h (by decide)⟩
def stowagelaw02_awake.f : Option (Bool) := (crc_Sum.f nine).bind fun t105 => (if t105 = 3421780262 then ((crc_Sum.f ([] : List Int)).bind fun t106 => (some (t106 == 0))) else (some false))
set_option maxHeartbeats 1000000 in
set_option maxRecDepth 100000 in
theorem stowagelaw02_awake.calls (r : Bool) (w : World) (h : stowagelaw02_awake.f = some r) :
    Calls Try.prog 11 #[] w fun e w' => e = .returned (.bool r) ∧ Below w.heap.size w w' := by
  unfold stowagelaw02_awake.f at h
  obtain ⟨s1, h1, h2⟩ := Option.bind_eq_some_iff.1 h
  have H1 := Aside0.mk h1
  clear h h1
  have kc := fun (w : World) (C : Array Value) (n c : Nat) => Lib.run_convert_bytes_const (P := Try.prog) w 23 5 C n c Try.underlying23 Try.underlying5
  have HC := Aside0.mk (nine_reads w (w.alloc (.cells nineC 5 (9, 10))) 5 (9, 10) w.heap.size (heap_alloc_new w _))
  have hsz : (w.alloc (.cells nineC 5 (9, 10))).heap.size = w.heap.size + 1 := by simp
  by_cases c : s1 = 3421780262
  · rw [if_pos c] at h2
    obtain ⟨s2, h3, h4⟩ := Option.bind_eq_some_iff.1 h2
    have H3 := Aside0.mk h3
    obtain rfl := Option.some.inj h4
    have cb : (s1 == 3421780262) = true := beq_iff_eq.mpr c
    clear h2 h3 h4 c
    go_enter Try.func11, Try.ntmps11
    go_wp2_with fail
    refine (crc_Sum.calls (some ⟨w.heap.size, 0, none⟩) 9 nine s1 (w.alloc (.cells nineC 5 (9, 10))) HC.out (by decide) H1.out).mono ?_
    rintro e w1 ⟨rfl, hb1⟩
    go_wp2_with fail
    refine (crc_Sum.calls none 0 [] s2 _ (none_reads _) (by decide) H3.out).mono ?_
    rintro e w2 ⟨rfl, hb2⟩
    go_wp2_with fail
    go_ret
    exact ⟨rfl, below_then (below_then (below_alloc (Below.refl _ _) _) (by simp) hb1) (by have := hb1.size; simp at this; omega) hb2⟩
  · rw [if_neg c] at h2
    obtain rfl := Option.some.inj h2
    have cb : (s1 == 3421780262) = false := beq_eq_false_iff_ne.mpr c
    clear h2 c
    go_enter Try.func11, Try.ntmps11
    go_wp2_with fail
    refine (crc_Sum.calls (some ⟨w.heap.size, 0, none⟩) 9 nine s1 (w.alloc (.cells nineC 5 (9, 10))) HC.out (by decide) H1.out).mono ?_
    rintro e w1 ⟨rfl, hb1⟩
    go_wp2_with fail
    go_ret
    exact ⟨rfl, below_then (below_alloc (Below.refl _ _) _) (by simp) hb1⟩

end Go.Proofs.Ytcjnbcfhbiijbaa.QCrcThree
