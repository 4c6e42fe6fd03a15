/- Written by a program of this session (wip/tools/mk.py) out of the kit's printing programs and of texts of our own: the contracts of the Go functions that the law goes through, and the row of the law. No condition is added. -/
import Derived.Test.YtcjnbcfhbiijbaaQCrcFindsx0
namespace Go.Proofs.Ytcjnbcfhbiijbaa.QCrcFinds
open Go.RowKit Go.Proofs.YtcjnbcfhbiijbaaW.PrintWords Go.Proofs.YtcjnbcfhbiijbaaW.PrintLast Go.Proofs.YtcjnbcfhbiijbaaW.PrintMore
attribute [local go_sem] max2_int min2_int max_two min_two max_three min_three max_four min_four   -- for this text's walks alone
set_option linter.unusedVariables false
set_option linter.unusedSimpArgs false

/-! ### crc_step: function 20 -/
def crc_step.f (a0 : Int) : Option (Int) := if (Go.bits .and .u32 a0 1) = 1 then (some (Go.bits .xor .u32 (a0 / 2) 3988292384)) else (some (a0 / 2))
set_option maxHeartbeats 8000000 in
set_option maxRecDepth 100000 in
theorem crc_step.calls (a0 : Int) (r : Int) (w : World) (h : crc_step.f a0 = some r) :
    Calls Try.prog 20 #[.int .u32 a0] w fun e w' => e = .returned (.int .u32 r) ∧ Drawn0 w w' := by
  have H : (if (Go.bits .and .u32 a0 1) = 1 then (some (Go.bits .xor .u32 (a0 / 2) 3988292384)) else (some (a0 / 2))) = some r := h
  clear h
  by_cases c2 : (Go.bits .and .u32 a0 1) = 1
  · rw [if_pos c2] at H
    have c2b0 : ((Go.bits .and .u32 a0 1) == 1) = true := beq_iff_eq.mpr c2
    have c2b1 : ((Go.bits .and .u32 a0 1) != 1) = false := bne_eq_false_iff_eq.mpr c2
    clear c2
    obtain rfl := Option.some.inj H
    go_enter Try.func20, Try.ntmps20
    go_wp2
    go_ret
    exact ⟨by first | rfl | (simp; done) | (simp [*]; done), by repeat (first | exact Drawn0.refl _ | apply Drawn0.step)⟩
  · rw [if_neg c2] at H
    have c2b0 : ((Go.bits .and .u32 a0 1) == 1) = false := beq_eq_false_iff_ne.mpr c2
    have c2b1 : ((Go.bits .and .u32 a0 1) != 1) = true := bne_iff_ne.mpr c2
    obtain rfl := Option.some.inj H
    go_enter Try.func20, Try.ntmps20
    go_wp2
    go_ret
    exact ⟨by first | rfl | (simp; done) | (simp [*]; done), by repeat (first | exact Drawn0.refl _ | apply Drawn0.step)⟩

/-! ### crc_rows: function 19 -/
section
variable {P : Program} {ops : Array Oper} {rest : List Oper} {o : Oper} {a : Act} {Q : Exit → Act → World → Prop} {w w' : World}
theorem wpList_value {v : Value} (hg : o.guard = none) (hr : (execOp a.eval o).run P w = .ok (.value v) w') (h : wpList P ops Q rest (a.put o.dst v) w') : wpList P ops Q (o :: rest) a w := by
  refine wpList_plain hg fun K hK => ?_
  unfold Oper.wp
  rw [hr]
  exact hK _ _ h
theorem wpList_build (t : TypeId) (hg : o.guard = none) (ho : o.op = .build t #[]) (cells : Array Value) (hb : P.built t [] = some cells) (h : wpList P ops Q rest (a.put o.dst (.agg cells)) w) : wpList P ops Q (o :: rest) a w := by
  refine wpList_value hg ?_ h
  unfold execOp
  simp only [ho, List.map_toArray, List.map_nil, Sem.run_bind]
  rw [run_build w t _ cells (by simpa using hb)]
  rfl
theorem wpList_box (t : TypeId) (x : Operand) (cells : Array Value) (hg : o.guard = none) (ho : o.op = .box t x) (hx : a.eval x = .agg cells) (h : wpList P ops Q rest (a.put o.dst (.pointer (some ⟨w.heap.size, 0, none⟩))) (w.alloc (.cells cells t))) : wpList P ops Q (o :: rest) a w := by
  refine wpList_value hg ?_ h
  unfold execOp
  simp only [ho, hx, Sem.run_bind]
  simp [Instr.box, newVar, go_sem]
end

/-- An array of n whole numbers 0. -/
def zArr (k : IntKind) (n : Nat) : Array Value := (List.replicate n (Value.int k 0)).toArray
theorem built46 : Try.prog.built 46 [] = some (zArr .u32 256) := by kernel_rfl

def stepI (r : Int) : Int := if Go.bits .and .u32 r 1 = 1 then Go.bits .xor .u32 (r / 2) 3988292384 else r / 2
theorem stepI_eq (r : Int) : crc_step.f r = some (stepI r) := by unfold crc_step.f stepI; split <;> rfl
def iterI : Nat → Int → Int
  | 0, r => r
  | n + 1, r => stepI (iterI n r)
def tabT (j : Nat) : Int := iterI 8 (j : Int)
/-- Block b holds n whole numbers of which the first k are told by T. -/
structure Tab (T : Nat → Int) (t b n k : Nat) (wr : World) : Prop where mk ::
  (out : ∃ cs : Array Value, wr.heap[b]? = some (.cells cs t (0, 0)) ∧ cs.size = n ∧ (∀ j, j < n → ∃ x, cs[j]? = some (.int .u32 x)) ∧ ∀ j, j < k → cs[j]? = some (.int .u32 (T j)))
theorem Tab.start (T : Nat → Int) (t n : Nat) (w : World) : Tab T t w.heap.size n 0 (w.alloc (.cells (zArr .u32 n) t)) :=
  ⟨zArr .u32 n, heap_alloc_new w _, by simp [zArr], fun j hj => ⟨0, by simp [zArr, hj]⟩, fun j hj => by omega⟩
theorem Tab.lt {T : Nat → Int} {t b n k : Nat} {wr : World} (h : Tab T t b n k wr) : b < wr.heap.size := by
  obtain ⟨cs, h1, _⟩ := h.out
  exact (Array.getElem?_eq_some_iff.1 h1).1
theorem Tab.cell {T : Nat → Int} {t b n k : Nat} {wr : World} (h : Tab T t b n k wr) (j : Nat) (hj : j < n) : ∃ x, wr.cell? ⟨b, j, none⟩ = some (.int .u32 x) := by
  obtain ⟨cs, h1, _, h2, _⟩ := h.out
  obtain ⟨x, hx⟩ := h2 j hj
  exact ⟨x, by simp [World.cell?, h1, hx]⟩
theorem Tab.at_ {T : Nat → Int} {t b n k : Nat} {wr : World} (h : Tab T t b n k wr) (j : Nat) (hj : j < k) : wr.cell? ⟨b, j, none⟩ = some (.int .u32 (T j)) := by
  obtain ⟨cs, h1, _, _, h2⟩ := h.out
  simp [World.cell?, h1, h2 j hj]
theorem Tab.free {T : Nat → Int} {t b n k : Nat} {wr : World} (h : Tab T t b n k wr) (j : Nat) : wr.frozen? ⟨b, j, none⟩ = false := by
  obtain ⟨cs, h1, _⟩ := h.out
  simp [World.frozen?, h1]
theorem Tab.drewN {T : Nat → Int} {t b n k : Nat} {wr : World} (h : Tab T t b n k wr) (m : Nat) : Tab T t b n k (wr.drewN m) := ⟨h.out⟩
theorem Tab.below {T : Nat → Int} {t b n k B : Nat} {wr w' : World} (h : Tab T t b n k wr) (hb : Below B wr w') (hB : b < B) : Tab T t b n k w' := by
  obtain ⟨cs, h1, h2⟩ := h.out
  exact ⟨cs, by rw [hb.block b hB]; exact h1, h2⟩
theorem Tab.store {T : Nat → Int} {t b n k : Nat} {wr : World} (h : Tab T t b n k wr) (hk : k < n) : Tab T t b n (k + 1) (wr.setCell ⟨b, k, none⟩ (.int .u32 (T k))) := by
  obtain ⟨cs, h1, h2, h3, h4⟩ := h.out
  refine ⟨cs.setIfInBounds k (.int .u32 (T k)), ?_, by simpa using h2, fun j hj => ?_, fun j hj => ?_⟩
  · simp [World.setCell, Array.getElem?_modify, h1]
  · by_cases e : k = j
    · subst e; exact ⟨T k, by simp [Array.getElem?_setIfInBounds, h2, hk]⟩
    · obtain ⟨x, hx⟩ := h3 j hj
      exact ⟨x, by simp [Array.getElem?_setIfInBounds, e, hx]⟩
  · by_cases e : k = j
    · subst e; simp [Array.getElem?_setIfInBounds, h2, hk]
    · simp [Array.getElem?_setIfInBounds, e, h4 j (by omega)]

set_option maxHeartbeats 1000000 in
set_option maxRecDepth 100000 in
theorem crc_rows.calls (w : World) : Calls Try.prog 19 #[] w fun e w' => e = .returned (.pointer (some ⟨w.heap.size, 0, none⟩)) ∧ Below w.heap.size w w' ∧ Tab tabT 46 w.heap.size 256 256 w' := by
  have H0 := Tab.start tabT 46 256 w
  have HB0 := Aside0.mk ((Below.refl w.heap.size w).alloc (Nat.le_refl _) (.cells (zArr .u32 256) 46))
  go_enter Try.func19, Try.ntmps19
  go_wp2_with (first | ((with_reducible refine gate_dst (N := 4) rfl ?_); refine wpList_build 46 rfl rfl (zArr .u32 256) built46 ?_) | ((with_reducible refine gate_dst (N := 5) rfl ?_); refine wpList_box 46 (.tmp 4) (zArr .u32 256) rfl rfl rfl ?_))
  go_loopw [6] (fun i wr => ∃ k : Nat, k ≤ 256 ∧ i = .int .i64 k ∧ Aside0 (Below w.heap.size w wr) ∧ Tab tabT 46 w.heap.size 256 k wr) (fun i _ => 256 - (intOf i).toNat)
  case atStart => exact ⟨0, by omega, rfl, HB0, H0⟩
  case round =>
    obtain ⟨k, hk, rfl, HB, HT⟩ := hrel
    clear H0 HB0
    by_cases hlt : k < 256
    · have hlb : decide ((k : Int) < 256) = true := by simp; omega
      go_wp2_with fail
      obtain ⟨wo, rfl⟩ : ∃ wo : World, wo = wr := ⟨_, rfl⟩
      go_loopw [3, 11] (fun r i wq => ∃ m : Nat, m ≤ 8 ∧ i = .int .i64 m ∧ r = .int .u32 (iterI m (k : Int)) ∧ Aside0 (Below w.heap.size w wq) ∧ Tab tabT 46 w.heap.size 256 k wq) (fun _ i _ => 8 - (intOf i).toNat)
      case atStart => exact ⟨0, by omega, rfl, rfl, HB, HT⟩
      case round =>
        obtain ⟨m, hm, rfl, rfl, HB, HT⟩ := hrel
        by_cases hlm : m < 8
        · go_wp2_with (go_at_call 20; refine (crc_step.calls _ (stepI (iterI m (k : Int))) _ (stepI_eq _)).mono ?_; rintro e w' ⟨rfl, ⟨nd, rfl⟩⟩)
          go_roundw
          case rel =>
            exact ⟨m + 1, by omega, by go_num, rfl, ⟨pw_below_drewN HB.out nd⟩, HT.drewN nd⟩
          case measure => simp [intOf]; omega
        · obtain rfl : m = 8 := by omega
          obtain ⟨x0, hx0⟩ := HT.cell k hlt
          have hf0 := HT.free k
          have HS := HT.store hlt
          go_wp2_with fail
          go_roundw
          case rel => exact ⟨k + 1, by omega, by go_num, ⟨HB.out.setCell (Nat.le_refl _) _⟩, HS⟩
          case measure => simp [intOf]; omega
    · go_wp2_with fail
      go_ret
      obtain rfl : k = 256 := by omega
      exact ⟨rfl, HB.out, HT⟩


/-! ### crc_More: function 14 -/
def moreStep (r x : Int) : Int := Go.bits .xor .u32 (r / 256) (tabT (Go.bits .xor .u8 (r % 256) x).toNat)
def crc_More.f (a0 : Int) (l1 : List Int) : Option Int := some (Go.bits .xor .u32 IntKind.u32.max (l1.foldl moreStep (Go.bits .xor .u32 IntKind.u32.max a0)))
theorem foldl_take (f : Int → Int → Int) (a : Int) (l : List Int) (k : Nat) (h : k < l.length) : (l.take (k + 1)).foldl f a = f ((l.take k).foldl f a) (rd l (k : Int)) := by
  rw [List.take_succ_eq_append_getElem h, List.foldl_append]
  simp [rd, List.getD_eq_getElem?_getD, List.getElem?_eq_getElem h]
theorem u8_range (a b : Int) : 0 ≤ Go.bits .xor .u8 a b ∧ Go.bits .xor .u8 a b < 256 := by
  unfold Go.bits
  split <;> (rw [IntKind.wrap_u8]; omega)
set_option maxHeartbeats 1000000 in
set_option maxRecDepth 100000 in
theorem crc_More.calls (a0 : Int) (A1 : Option Addr) (c1 : Nat) (l1 : List Int) (r : Int) (w : World) (hr1 : Kd.C (Kd.int .u8) w A1 l1.length l1) (hc1 : l1.length ≤ c1) (h : crc_More.f a0 l1 = some r) :
    Calls Try.prog 14 #[.int .u32 a0, .slice A1 l1.length c1] w fun e w' => e = .returned (.int .u32 r) ∧ Below w.heap.size w w' := by
  have HR1 := Aside0.mk hr1
  have HL := hr1.2.1
  clear hr1 hc1
  have h' : Go.bits .xor .u32 IntKind.u32.max (l1.foldl moreStep (Go.bits .xor .u32 IntKind.u32.max a0)) = r := Option.some.inj h
  have H := Aside0.mk h'
  clear h h'
  go_enter Try.func14, Try.ntmps14
  go_wp2_with (go_at_call 19; refine (crc_rows.calls _).mono ?_; rintro e w1 ⟨rfl, hb, HT⟩)
  go_loopw [6, 14] (fun r i wr => ∃ k : Nat, k ≤ l1.length ∧ i = .int .i64 k ∧ r = .int .u32 ((l1.take k).foldl moreStep (Go.bits .xor .u32 IntKind.u32.max a0)) ∧ Aside0 (Below w.heap.size w wr) ∧ Tab tabT 46 w.heap.size 256 256 wr) (fun _ i _ => l1.length - (intOf i).toNat)
  case atStart => exact ⟨0, by omega, rfl, rfl, ⟨hb⟩, HT⟩
  case round =>
    obtain ⟨k, hk, rfl, rfl, HB, HT⟩ := hrel
    clear hb
    by_cases hlt : k < l1.length
    · have hlb : decide ((k : Int) < (l1.length : Int)) = true := by simp; omega
      obtain ⟨ad, rfl, hx⟩ := Kd.at_int HR1.out (k : Int) (by omega) (by omega)
      replace hx := (HB.out.cell (World.block_lt_of_cell? w _ hx)).trans hx
      rw [Int.toNat_natCast] at hx
      have HF := Aside0.mk (foldl_take moreStep (Go.bits .xor .u32 IntKind.u32.max a0) l1 k hlt)
      generalize (l1.take k).foldl moreStep (Go.bits .xor .u32 IntKind.u32.max a0) = s at *
      obtain ⟨hq0, hq1⟩ := u8_range (s % 256) (rd l1 (k : Int))
      have HQ : Aside0 (moreStep s (rd l1 (k : Int)) = Go.bits .xor .u32 (s / 256) (tabT (Go.bits .xor .u8 (s % 256) (rd l1 (k : Int))).toNat)) := Aside0.mk rfl
      obtain ⟨q, hq⟩ := Int.eq_ofNat_of_zero_le hq0
      rw [hq] at HQ hq1
      clear hq0
      have hc := HT.at_ q (by omega)
      go_wp2_with fail
      go_roundw
      case rel => exact ⟨k + 1, by omega, by go_num, by rw [HF.out, HQ.out]; rfl, HB, HT⟩
      case measure => simp [intOf]; omega
    · go_wp2_with fail
      go_ret
      obtain rfl : k = l1.length := by omega
      exact ⟨congrArg (fun z => Ending.returned (.int .u32 z)) (by rw [List.take_length]; exact H.out), HB.out⟩


/-! ### crc_Sum: function 12 -/
def crc_Sum.f (l0 : List Int) : Option (Int) := (crc_More.f 0 l0).bind fun t101 => (some t101)
set_option maxHeartbeats 8000000 in
set_option maxRecDepth 100000 in
theorem crc_Sum.calls (A0 : Option Addr) (c0 : Nat) (l0 : List Int) (r : Int) (w : World) (hr0 : Kd.C (Kd.int .u8) w A0 l0.length l0) (hc0 : l0.length ≤ c0) (h : crc_Sum.f l0 = some r) :
    Calls Try.prog 12 #[.slice A0 l0.length c0] w fun e w' => e = .returned (.int .u32 r) ∧ Below w.heap.size w w' := by
  have HR0 := Aside0.mk hr0
  have HC0 := Aside0.mk hc0
  clear hr0 hc0
  have HB := Aside0.mk (Below.refl w.heap.size w)
  have H : ((crc_More.f 0 l0).bind fun t101 => (some t101)) = some r := h
  clear h
  replace H := Option.bind_eq_some_iff.mp H
  obtain ⟨t101, A20, H⟩ := H
  replace H : (some t101) = some r := H
  have A2 := Aside0.mk A20
  clear A20
  obtain rfl := Option.some.inj H
  go_enter Try.func12, Try.ntmps12
  go_wp2_with (first | ((with_reducible refine gate_callee (f := 14) rfl ?_); refine goesL_ (some 4) rfl rfl Try.func14 (by kernel_rfl) rfl #[.int .u32 0, .slice A0 l0.length c0] rfl (by (try simp only [List.map_toArray, List.map_cons, List.map_nil]); first | done | rfl | (simp only [List.length_drop, List.length_take]; rfl)) ?_; (with_reducible refine (crc_More.calls 0 _ _ l0 t101 _ ?side1 ?side2 A2.out).mono ?_); (case side1 => repeat (first | exact HR0.out | (with_reducible refine Kd.C_alloc ?_ _) | (with_reducible refine Kd.C_drewN ?_ _) | (with_reducible refine Kd.C_drew ?_))); (case side2 => exact HC0.out); rintro e w3 ⟨rfl, hb⟩; refine ⟨_, rfl, ?_⟩; have n0_ := Aside0.mk (below_step (by repeat (first | (with_reducible first | exact HB.out | apply below_alloc | apply pw_below_drewN | apply below_drew1) | exact HB.out)) hb); clear HB; have HB := n0_; clear n0_; (try clear hb); (try clear hb2); (try clear hk); (try clear hi)))
  go_ret
  exact ⟨by first | rfl | (simp [errW_none, errW_some] <;> rfl) | (simp [*, errW_none, errW_some] <;> rfl), by repeat (first | (with_reducible first | exact HB.out | apply below_alloc | apply pw_below_drewN | apply below_drew1) | exact HB.out)⟩

/-! ### stowagelaw02_awake: function 11 -/
def nine : List Int := [49, 50, 51, 52, 53, 54, 55, 56, 57]
def nineC : Array Value := #[.int .u8 49, .int .u8 50, .int .u8 51, .int .u8 52, .int .u8 53, .int .u8 54, .int .u8 55, .int .u8 56, .int .u8 57]
theorem nine_at : ∀ j, j < 9 → nineC[j]? = some (.int .u8 (nine.getD j 0)) := by
  intro j hj
  have : j = 0 ∨ j = 1 ∨ j = 2 ∨ j = 3 ∨ j = 4 ∨ j = 5 ∨ j = 6 ∨ j = 7 ∨ j = 8 := by omega
  rcases this with rfl | rfl | rfl | rfl | rfl | rfl | rfl | rfl | rfl <;> rfl
theorem nine_reads (w W : World) (t : TypeId) (fr : Nat × Nat) (b : Nat) (h : W.heap[b]? = some (.cells nineC t fr)) : Kd.C (Kd.int .u8) W (some ⟨b, 0, none⟩) nine.length nine := by
  refine Kd.C_of_reads (d := (0 : Int)) (h1 := fun _ => rfl) ⟨rfl, by decide, fun _ => ⟨_, rfl, fun j hj => ?_⟩⟩
  rw [add_plain]
  simp only [World.cell?, h]
  exact nine_at j hj
theorem none_reads (W : World) : Kd.C (Kd.int .u8) W none ([] : List Int).length [] :=
  Kd.C_of_reads (d := (0 : Int)) (h1 := fun _ => rfl) ⟨rfl, by decide, fun h => absurd h (by decide)⟩
def stowagelaw02_awake.f : Option (Bool) := (crc_Sum.f nine).bind fun t105 => (if t105 = 3421780262 then ((crc_Sum.f ([] : List Int)).bind fun t106 => (some (t106 == 0))) else (some false))
set_option maxHeartbeats 1000000 in
set_option maxRecDepth 100000 in
theorem stowagelaw02_awake.calls (r : Bool) (w : World) (h : stowagelaw02_awake.f = some r) :
    Calls Try.prog 11 #[] w fun e w' => e = .returned (.bool r) ∧ Below w.heap.size w w' := by
  unfold stowagelaw02_awake.f at h
  obtain ⟨s1, h1, h2⟩ := Option.bind_eq_some_iff.1 h
  have H1 := Aside0.mk h1
  clear h h1
  have kc := fun (w : World) (C : Array Value) (n c : Nat) => Lib.run_convert_bytes_const (P := Try.prog) w 23 5 C n c Try.underlying23 Try.underlying5
  have HC := Aside0.mk (nine_reads w (w.alloc (.cells nineC 5 (9, 10))) 5 (9, 10) w.heap.size (heap_alloc_new w _))
  have hsz : (w.alloc (.cells nineC 5 (9, 10))).heap.size = w.heap.size + 1 := by simp
  by_cases c : s1 = 3421780262
  · rw [if_pos c] at h2
    obtain ⟨s2, h3, h4⟩ := Option.bind_eq_some_iff.1 h2
    have H3 := Aside0.mk h3
    obtain rfl := Option.some.inj h4
    have cb : (s1 == 3421780262) = true := beq_iff_eq.mpr c
    clear h2 h3 h4 c
    go_enter Try.func11, Try.ntmps11
    go_wp2_with fail
    refine (crc_Sum.calls (some ⟨w.heap.size, 0, none⟩) 9 nine s1 (w.alloc (.cells nineC 5 (9, 10))) HC.out (by decide) H1.out).mono ?_
    rintro e w1 ⟨rfl, hb1⟩
    go_wp2_with fail
    refine (crc_Sum.calls none 0 [] s2 _ (none_reads _) (by decide) H3.out).mono ?_
    rintro e w2 ⟨rfl, hb2⟩
    go_wp2_with fail
    go_ret
    exact ⟨rfl, below_then (below_then (below_alloc (Below.refl _ _) _) (by simp) hb1) (by have := hb1.size; simp at this; omega) hb2⟩
  · rw [if_neg c] at h2
    obtain rfl := Option.some.inj h2
    have cb : (s1 == 3421780262) = false := beq_eq_false_iff_ne.mpr c
    clear h2 c
    go_enter Try.func11, Try.ntmps11
    go_wp2_with fail
    refine (crc_Sum.calls (some ⟨w.heap.size, 0, none⟩) 9 nine s1 (w.alloc (.cells nineC 5 (9, 10))) HC.out (by decide) H1.out).mono ?_
    rintro e w1 ⟨rfl, hb1⟩
    go_wp2_with fail
    go_ret
    exact ⟨rfl, below_then (below_alloc (Below.refl _ _) _) (by simp) hb1⟩

/-! ### stowagelaw02_CrcFinds: function 4 -/
mutual
def stowagelaw02_CrcFinds.j0 : Nat → List Int → Int → Int → Bool → Option (Bool)
  | 0, _, _, _, _ => none
  | k + 1, x0, x1, x2, x16 => if x16 = true then ((stowagelaw02_awake.f).bind fun t102 => (some t102)) else (if (wrap64 ((x0.length : Int) - 3)) = 0 then (none) else ((some (([] : List Int) : List Int)).bind fun y103 => (if y103.length + x0.length < 140737488355328 then (stowagelaw02_CrcFinds.l0 k x0 x2 (Int.tmod (wrap64 (x1)) (wrap64 ((x0.length : Int) - 3))) (y103 ++ x0) 0) else (none))))
def stowagelaw02_CrcFinds.l0 : Nat → List Int → Int → Int → List Int → Int → Option (Bool)
  | 0, _, _, _, _, _ => none
  | k + 1, x0, x2, x7, x8, x9 => if x9 < 4 then (if 0 ≤ (wrap64 (x7 + x9)) then (if (wrap64 (x7 + x9)) < (x8.length : Int) then (if 0 ≤ (wrap64 (8 * x9)) then (stowagelaw02_CrcFinds.l0 k x0 x2 x7 (x8.set ((wrap64 (x7 + x9)) : Int).toNat (Go.bits .xor .u8 (rd x8 (wrap64 (x7 + x9))) ((shr .u32 x2 (wrap64 (8 * x9))) % 256))) (wrap64 (x9 + 1))) else (none)) else (none)) else (none)) else ((stowagelaw02_awake.f).bind fun t111 => (if t111 = true then ((crc_Sum.f x8).bind fun t112 => ((crc_Sum.f x0).bind fun t113 => (some (t112 != t113)))) else (some false)))
end
def stowagelaw02_CrcFinds.f (k : Nat) (l0 : List Int) (a1 : Int) (a2 : Int) : Option (Bool) := if (l0.length : Int) < 4 then (stowagelaw02_CrcFinds.j0 k l0 a1 a2 true) else (stowagelaw02_CrcFinds.j0 k l0 a1 a2 (a2 == 0))
theorem stowagelaw02_CrcFinds.mono_l : ∀ k, (∀ y0 y1 y2 y3, LeO (stowagelaw02_CrcFinds.j0 k y0 y1 y2 y3) (stowagelaw02_CrcFinds.j0 (k + 1) y0 y1 y2 y3)) ∧ (∀ y0 y1 y2 y3 y4, LeO (stowagelaw02_CrcFinds.l0 k y0 y1 y2 y3 y4) (stowagelaw02_CrcFinds.l0 (k + 1) y0 y1 y2 y3 y4))
  | 0 => ⟨fun _ _ _ _ r h => by simp [stowagelaw02_CrcFinds.j0] at h, fun _ _ _ _ _ r h => by simp [stowagelaw02_CrcFinds.l0] at h⟩
  | k + 1 => by
    obtain ⟨ih0, ih1⟩ := stowagelaw02_CrcFinds.mono_l k
    refine ⟨?_, ?_⟩
    · intro y0 y1 y2 y3
      unfold stowagelaw02_CrcFinds.j0
      repeat' first
      | (with_reducible exact ih0 _ _ _ _)
      | (with_reducible exact ih1 _ _ _ _ _)
      | (with_reducible exact LeO.refl _)
      | (with_reducible exact LeO.none _)
      | (with_reducible refine LeO.ite ?_ ?_)
      | (with_reducible refine LeO.bind ?_ (fun _ => ?_))
      | exact ih0 _ _ _ _
      | exact ih1 _ _ _ _ _
      | exact LeO.none _
      | refine LeO.ite ?_ ?_
      | refine LeO.bind ?_ (fun _ => ?_)
    · intro y0 y1 y2 y3 y4
      unfold stowagelaw02_CrcFinds.l0
      repeat' first
      | (with_reducible exact ih0 _ _ _ _)
      | (with_reducible exact ih1 _ _ _ _ _)
      | (with_reducible exact LeO.refl _)
      | (with_reducible exact LeO.none _)
      | (with_reducible refine LeO.ite ?_ ?_)
      | (with_reducible refine LeO.bind ?_ (fun _ => ?_))
      | exact ih0 _ _ _ _
      | exact ih1 _ _ _ _ _
      | exact LeO.none _
      | refine LeO.ite ?_ ?_
      | refine LeO.bind ?_ (fun _ => ?_)
theorem stowagelaw02_CrcFinds.mono : ∀ a0 a1 a2 k, LeO (stowagelaw02_CrcFinds.f k a0 a1 a2) (stowagelaw02_CrcFinds.f (k + 1) a0 a1 a2) := by
  intro a0 a1 a2 k
  obtain ⟨ih0, ih1⟩ := stowagelaw02_CrcFinds.mono_l k
  unfold stowagelaw02_CrcFinds.f
  repeat' first
      | (with_reducible exact ih0 _ _ _ _)
      | (with_reducible exact ih1 _ _ _ _ _)
      | (with_reducible exact LeO.refl _)
      | (with_reducible exact LeO.none _)
      | (with_reducible refine LeO.ite ?_ ?_)
      | (with_reducible refine LeO.bind ?_ (fun _ => ?_))
      | exact ih0 _ _ _ _
      | exact ih1 _ _ _ _ _
      | exact LeO.none _
      | refine LeO.ite ?_ ?_
      | refine LeO.bind ?_ (fun _ => ?_)
def stowagelaw02_CrcFinds.T8 : Bool × List (List Nat × List Nat) := (true, [([], []), ([], []), ([], []), ([1, 2], [1, 2]), ([0, 3], [0, 3]), ([4], [4]), ([], []), ([], []), ([7], [7]), ([6, 8], [6, 8]), ([9], [9]), ([5, 10], [5, 10]), ([0, 3, 0, 1, 2, 3, 4, 5, 6, 7, 8, 9, 10, 11], [0, 3]), ([12, 11, 0, 1, 2, 3, 4, 5, 6, 7, 8, 9, 10, 11], [11, 12])])
def stowagelaw02_CrcFinds.B8 : List Nat := [0, 0, 0, 6, 15, 31, 0, 0, 128, 448, 960, 2047, 4095, 8191]
theorem stowagelaw02_CrcFinds.tab8 : rtab .any (opsOf Try.f4 8) = stowagelaw02_CrcFinds.T8 := by kernel_rfl
theorem stowagelaw02_CrcFinds.bits8 : waitsOk stowagelaw02_CrcFinds.T8.2 stowagelaw02_CrcFinds.B8 = true := by kernel_rfl
set_option maxHeartbeats 8000000 in
set_option maxRecDepth 100000 in
theorem stowagelaw02_CrcFinds.calls (k : Nat) (A0 : Option Addr) (c0 : Nat) (l0 : List Int) (a1 : Int) (a2 : Int) (r : Bool) (w : World) (hr0 : Kd.C (Kd.int .u8) w A0 l0.length l0) (hc0 : l0.length ≤ c0) (h : stowagelaw02_CrcFinds.f k l0 a1 a2 = some r) :
    Calls Try.prog 4 #[.slice A0 l0.length c0, .int .u16 a1, .int .u32 a2] w fun e w' => e = .returned (.bool r) ∧ Below w.heap.size w w' := by
  have HR0 := Aside0.mk hr0
  have HC0 := Aside0.mk hc0
  clear hr0 hc0
  have HB := Aside0.mk (Below.refl w.heap.size w)
  have H : (if (l0.length : Int) < 4 then (stowagelaw02_CrcFinds.j0 k l0 a1 a2 true) else (stowagelaw02_CrcFinds.j0 k l0 a1 a2 (a2 == 0))) = some r := h
  clear h
  have HC4 := Aside0.mk H
  clear H
  go_enter Try.func4, Try.ntmps4
  go_upto_region 1 with (fail)
  go_cut [16] (fun v16 wc => ∃ (kq : Nat) (x16_3 : Bool), v16 = .bool x16_3 ∧ Aside0 (stowagelaw02_CrcFinds.j0 kq l0 a1 a2 x16_3 = some r) ∧ Aside0 (kq ≤ k) ∧ Aside0 (Below w.heap.size w wc))
  case first =>
    have H := HC4.out
    clear HC4
    by_cases c5 : (l0.length : Int) < 4
    · rw [if_pos c5] at H
      have c5b0 : decide ((l0.length : Int) < 4) = true := decide_eq_true c5
      have c5b1 : decide (l0.length < 4) = true := decide_eq_true (by omega)
      clear c5
      (first | rw [c5b0] | (simp only [i64_w, i32_w]; rw [c5b0]) | skip)
      have H' := Aside0.mk H
      clear H
      go_wp2
      go_meet
      case rel => exact ⟨_, (true), (by first | rfl | (simp; done) | (simp [*]; done)), H', ⟨by first | omega | exact Nat.le_refl _⟩, ⟨by repeat (first | (with_reducible first | exact HB.out | apply below_alloc | apply pw_below_drewN | apply below_drew1) | exact HB.out)⟩⟩
    · rw [if_neg c5] at H
      have c5b0 : decide ((l0.length : Int) < 4) = false := decide_eq_false c5
      have c5b1 : decide (l0.length < 4) = false := decide_eq_false (by omega)
      clear c5
      (first | rw [c5b0] | (simp only [i64_w, i32_w]; rw [c5b0]) | skip)
      have H' := Aside0.mk H
      clear H
      go_wp2
      go_meet
      case rel => exact ⟨_, ((a2 == 0)), (by first | rfl | (simp; done) | (simp [*]; done)), H', ⟨by first | omega | exact Nat.le_refl _⟩, ⟨by repeat (first | (with_reducible first | exact HB.out | apply below_alloc | apply pw_below_drewN | apply below_drew1) | exact HB.out)⟩⟩
  case rest =>
    clear HC4
    try clear p2
    try clear c4
    try clear c5
    try clear c5b0
    try clear c5b1
    obtain ⟨kq, x16_3, rfl, HA, HJ3, HB⟩ := hcut
    cases kq with
    | zero => exact absurd HA.out (by simp [stowagelaw02_CrcFinds.j0])
    | succ kj3 =>
      have H := HA.out
      clear HA
      simp only [stowagelaw02_CrcFinds.j0] at H
      by_cases c6 : x16_3 = true
      · subst c6
        have H1 : ((stowagelaw02_awake.f).bind fun t102 => (some t102)) = some r := by rw [if_pos rfl] at H; exact H
        clear H
        have H := H1
        clear H1
        replace H := Option.bind_eq_some_iff.mp H
        obtain ⟨t102, A70, H⟩ := H
        replace H : (some t102) = some r := H
        have A7 := Aside0.mk A70
        clear A70
        obtain rfl := Option.some.inj H
        go_wp2_with (first | ((with_reducible refine gate_callee (f := 11) rfl ?_); refine goesL_ (some 17) rfl rfl Try.func11 (by kernel_rfl) rfl #[] rfl (by (try simp only [List.map_toArray, List.map_cons, List.map_nil]); first | done | rfl | (simp only [List.length_drop, List.length_take]; rfl)) ?_; (with_reducible refine (stowagelaw02_awake.calls  t102 _ A7.out).mono ?_); rintro e w8 ⟨rfl, hb⟩; refine ⟨_, rfl, ?_⟩; have n0_ := Aside0.mk (below_step (by repeat (first | (with_reducible first | exact HB.out | apply below_alloc | apply pw_below_drewN | apply below_drew1) | exact HB.out)) hb); clear HB; have HB := n0_; clear n0_; (try clear hb); (try clear hb2); (try clear hk); (try clear hi)))
        go_ret
        exact ⟨by first | rfl | (simp [errW_none, errW_some] <;> rfl) | (simp [*, errW_none, errW_some] <;> rfl), by repeat (first | (with_reducible first | exact HB.out | apply below_alloc | apply pw_below_drewN | apply below_drew1) | exact HB.out)⟩
      · replace c6 := Bool.eq_false_iff.mpr c6
        subst c6
        have H1 : (if (wrap64 ((l0.length : Int) - 3)) = 0 then (none) else ((some (([] : List Int) : List Int)).bind fun y103 => (if y103.length + l0.length < 140737488355328 then (stowagelaw02_CrcFinds.l0 kj3 l0 a2 (Int.tmod (wrap64 (a1)) (wrap64 ((l0.length : Int) - 3))) (y103 ++ l0) 0) else (none)))) = some r := by rw [if_neg (show ¬ (false = true) by decide)] at H; exact H
        clear H
        have H := H1
        clear H1
        by_cases c9 : (wrap64 ((l0.length : Int) - 3)) = 0
        · rw [if_pos c9] at H
          exact absurd H (by simp)
        · rw [if_neg c9] at H
          have c9b0 : ((wrap64 ((l0.length : Int) - 3)) == 0) = false := beq_eq_false_iff_ne.mpr c9
          have c9b1 : ((wrap64 ((l0.length : Int) - 3)) != 0) = true := bne_iff_ne.mpr c9
          obtain ⟨y103, hy103⟩ : ∃ y_ : List Int, y_ = (([] : List Int)) := ⟨_, rfl⟩
          replace H : (if y103.length + l0.length < 140737488355328 then (stowagelaw02_CrcFinds.l0 kj3 l0 a2 (Int.tmod (wrap64 (a1)) (wrap64 ((l0.length : Int) - 3))) (y103 ++ l0) 0) else (none)) = some r := by first | (rw [hy103]; with_reducible exact H) | (have H2_ := (Option.bind_some _ _).symm.trans H; rw [hy103]; with_reducible exact H2_) | (have H2_ := (Option.bind_some _ _).symm.trans H; with_reducible exact H2_) | with_reducible exact H | (rw [hy103]; exact H) | exact H
          have Ny103 := Aside0.mk hy103
          clear hy103
          by_cases c10 : y103.length + l0.length < 140737488355328
          · rw [if_pos c10] at H
            have LMc10 := Aside0.mk c10
            clear c10
            obtain ⟨y106, hy106⟩ : ∃ y_ : List Int, y_ = (y103 ++ l0) := ⟨_, rfl⟩
            replace H : (stowagelaw02_CrcFinds.l0 kj3 l0 a2 (Int.tmod (wrap64 (a1)) (wrap64 ((l0.length : Int) - 3))) y106 0) = some r := by first | (rw [hy106]; with_reducible exact H) | (have H2_ := (Option.bind_some _ _).symm.trans H; rw [hy106]; with_reducible exact H2_) | (have H2_ := (Option.bind_some _ _).symm.trans H; with_reducible exact H2_) | with_reducible exact H | (rw [hy106]; exact H) | exact H
            have Ny106 := Aside0.mk hy106
            clear hy106
            have H' := Aside0.mk H
            clear H
            go_wp2_with (first | ((with_reducible refine gate_dst (N := 24) rfl ?_); refine Kd.R_lit (Kd.int .u8) _ 5 ?hg (N := 24) ?hd (xs := ([] : List Int)) (inner := []) (ok := fun _ => True) (okp := fun _ => True) ?hr ?hp (fun _ hk => hk) trivial (Below.refl _ _) (Nat.le_refl _) (by simp) ?_; (case hd => rfl); (case hg => rfl); (case hr => first | (go_simp; done) | (go_simp; rfl)); (case hp => exact (Reps.none _ _)); intro v104 w11 ho12 hb hg_ hnew_; clear hg_ hnew_; (first | rw [← Ny103.out] at ho12 | (simp only [Int.reduceToNat] at ho12; rw [← Ny103.out] at ho12)); have n0_ := Aside0.mk (Kd.R_lower ho12 (below_size (by repeat (first | (with_reducible first | exact HB.out | apply below_alloc | apply pw_below_drewN | apply below_drew1) | exact HB.out)))); have n1_ := Aside0.mk (below_step (by repeat (first | (with_reducible first | exact HB.out | apply below_alloc | apply pw_below_drewN | apply below_drew1) | exact HB.out)) hb); clear HB; have HO105 := n0_; have HB := n1_; clear n0_ n1_; clear hb ho12) | ((with_reducible refine gate_builtin (b := .append) (xs := #[.tmp 24, .tmp 25]) rfl ?_); at_builtin; refine Kd.R_append_rows (Kd.int .u8) (w0 := w) w.heap.size rfl (.tmp 24) (.tmp 25) 23 5 (.int .u8 0) 1 rfl Try.underlying23 info5 rfl (by decide) (by omega) v104 y103 l0 _ _ _ (fun _ => True) (fun _ => False) rfl rfl ?aO ?aR (fun _ _ h => h) (fun _ h => h.elim) ?aF ?aB ?aS ?aL ?_; (case aR => repeat (first | exact (Kd.C_below HR0.out HB.out) | (with_reducible refine Kd.C_alloc ?_ _) | (with_reducible refine Kd.C_drewN ?_ _) | (with_reducible refine Kd.C_drew ?_))); (case aB => exact (by repeat (first | (with_reducible first | exact HB.out | apply below_alloc | apply pw_below_drewN | apply below_drew1) | exact HB.out))); (case aF => exact (fun _ _ => trivial)); (case aO => exact (by (with_reducible repeat (first | apply Kd.R_alloc | apply Kd.R_drewN | apply Kd.R_drew)); exact HO105.out)); (case aS => exact (below_size (by repeat (first | (with_reducible first | exact HB.out | apply below_alloc | apply pw_below_drewN | apply below_drew1) | exact HB.out)))); (case aL => have := LMc10.out; omega); intro v107 w13 ho hb hg hat; rw [← Ny106.out] at ho; have n0_ := Aside0.mk (hb); have n1_ := Aside0.mk (ho); clear HB; clear HO105; have HB := n0_; have HO108 := n1_; clear n0_ n1_; clear ho hb hg hat))
            go_loopg [9] kj3 (fun kq v9 w' => ∃ (x8_2 : List Int) (x9_2 : Int), v9 = .int .i64 x9_2 ∧ Aside0 (stowagelaw02_CrcFinds.l0 kq l0 a2 (Int.tmod (wrap64 (a1)) (wrap64 ((l0.length : Int) - 3))) x8_2 x9_2 = some r) ∧ Aside0 (kq ≤ kj3) ∧ Aside0 (Kd.R (Kd.int .u8) 5 w' w.heap.size (fun _ => True) v107 x8_2) ∧ Aside0 (Below w.heap.size w w'))
            case atStart => exact ⟨(y106), (0), (by first | rfl | (simp; done) | (simp [*]; done)), H', ⟨Nat.le_refl _⟩, ⟨by (with_reducible repeat (first | apply Kd.R_alloc | apply Kd.R_drewN | apply Kd.R_drew)); exact HO108.out⟩, ⟨by repeat (first | (with_reducible first | exact HB.out | apply below_alloc | apply pw_below_drewN | apply below_drew1) | exact HB.out)⟩⟩
            case round =>
              clear H'
              try clear c1
              try clear p2
              try clear c4
              try clear c5
              try clear c5b0
              try clear c5b1
              try clear c6
              try clear p6
              try clear c9
              try clear c9b0
              try clear c9b1
              try clear c10
              try clear c11
              try clear p2
              obtain ⟨x8_2, x9_2, rfl, HA, HK2, HO_8, HB⟩ := hrel
              cases gk with
              | zero => exact absurd HA.out (by simp [stowagelaw02_CrcFinds.l0])
              | succ k2 =>
                have H := HA.out
                clear HA
                simp only [stowagelaw02_CrcFinds.l0] at H
                by_cases c14 : x9_2 < 4
                · rw [if_pos c14] at H
                  have c14b0 : decide (x9_2 < 4) = true := decide_eq_true c14
                  clear c14
                  obtain ⟨ji15, hji15⟩ : ∃ j_ : Int, (wrap64 ((Int.tmod (wrap64 (a1)) (wrap64 ((l0.length : Int) - 3))) + x9_2)) = j_ := ⟨_, rfl⟩
                  replace H : (if 0 ≤ (ji15) then (if (ji15) < (x8_2.length : Int) then (if 0 ≤ (wrap64 (8 * x9_2)) then (stowagelaw02_CrcFinds.l0 k2 l0 a2 (Int.tmod (wrap64 (a1)) (wrap64 ((l0.length : Int) - 3))) (x8_2.set ((ji15) : Int).toNat (Go.bits .xor .u8 (rd x8_2 (ji15)) ((shr .u32 a2 (wrap64 (8 * x9_2))) % 256))) (wrap64 (x9_2 + 1))) else (none)) else (none)) else (none)) = some r := by first | (rw [hji15] at H; exact H) | (simp only [hji15] at H ⊢; exact H)
                  have hji15w : (IntKind.i64.wrap ((Int.tmod (wrap64 (a1)) (wrap64 ((l0.length : Int) - 3))) + x9_2)) = ji15 := (i64_w _).trans hji15
                  by_cases c16 : 0 ≤ (ji15)
                  · rw [if_pos c16] at H
                    have c16b0 : decide (0 ≤ (ji15)) = true := decide_eq_true c16
                    clear c16
                    by_cases c17 : (ji15) < (x8_2.length : Int)
                    · rw [if_pos c17] at H
                      have c17b0 : decide ((ji15) < (x8_2.length : Int)) = true := decide_eq_true c17
                      clear c17
                      obtain ⟨ji18, hji18⟩ : ∃ j_ : Int, (wrap64 (8 * x9_2)) = j_ := ⟨_, rfl⟩
                      replace H : (if 0 ≤ (ji18) then (stowagelaw02_CrcFinds.l0 k2 l0 a2 (Int.tmod (wrap64 (a1)) (wrap64 ((l0.length : Int) - 3))) (x8_2.set ((ji15) : Int).toNat (Go.bits .xor .u8 (rd x8_2 (ji15)) ((shr .u32 a2 (ji18)) % 256))) (wrap64 (x9_2 + 1))) else (none)) = some r := by first | (rw [hji18] at H; exact H) | (simp only [hji18] at H ⊢; exact H)
                      have hji18w : (IntKind.i64.wrap (8 * x9_2)) = ji18 := (i64_w _).trans hji18
                      by_cases c19 : 0 ≤ (ji18)
                      · rw [if_pos c19] at H
                        have c19b0 := eq_true c19
                        have c19b1 : decide (0 ≤ (ji18)) = true := decide_eq_true c19
                        clear c19
                        obtain ⟨ji20, hji20⟩ : ∃ j_ : Int, (shr .u32 a2 (ji18)) = j_ := ⟨_, rfl⟩
                        replace H : (stowagelaw02_CrcFinds.l0 k2 l0 a2 (Int.tmod (wrap64 (a1)) (wrap64 ((l0.length : Int) - 3))) (x8_2.set ((ji15) : Int).toNat (Go.bits .xor .u8 (rd x8_2 (ji15)) ((ji20) % 256))) (wrap64 (x9_2 + 1))) = some r := by first | (rw [hji20] at H; exact H) | (simp only [hji20] at H ⊢; exact H)
                        have hji20_ : (a2 / 2 ^ min (ji18).toNat 32) = ji20 := hji20
                        have hji20z : (ji18) ≤ 32 → (a2 / 2 ^ (ji18).toNat) = ji20 := shr_small hji20
                        obtain ⟨y110, hy110⟩ : ∃ y_ : List Int, y_ = (x8_2.set ((ji15) : Int).toNat (Go.bits .xor .u8 (rd x8_2 (ji15)) ((ji20) % 256))) := ⟨_, rfl⟩
                        replace H : (stowagelaw02_CrcFinds.l0 k2 l0 a2 (Int.tmod (wrap64 (a1)) (wrap64 ((l0.length : Int) - 3))) y110 (wrap64 (x9_2 + 1))) = some r := by first | (rw [hy110]; with_reducible exact H) | (have H2_ := (Option.bind_some _ _).symm.trans H; rw [hy110]; with_reducible exact H2_) | (have H2_ := (Option.bind_some _ _).symm.trans H; with_reducible exact H2_) | with_reducible exact H | (rw [hy110]; exact H) | exact H
                        have Ny110 := Aside0.mk hy110
                        clear hy110
                        have H' := Aside0.mk H
                        clear H
                        try go_wp2
                        have n0_ := Aside0.mk (Kd.R_drew HO_8.out)
                        have n1_ := Aside0.mk (below_drew1 HB.out)
                        clear HO_8
                        clear HB
                        have HO_8 := n0_
                        have HB := n1_
                        clear n0_ n1_
                        obtain ⟨Ao23, co23, eo23⟩ := Kd.R_slice HO_8.out
                        (first | subst eo23 | (injection eo23 with f1_ f2_ f3_; have f4_ := f1_.symm; have f5_ := f3_.symm; clear f1_ f2_ f3_; subst f4_; subst f5_))
                        have p109 : 0 ≤ ((ji15) : Int) := of_decide_eq_true (by first | (with_reducible assumption) | assumption)
                        have q109 : (ji15) < (x8_2.length : Int) := of_decide_eq_true (by first | (with_reducible assumption) | assumption)
                        obtain ⟨ad109, e109, hx109_0⟩ := Kd.at_int (Kd.R_reads' HO_8.out).2.2 (ji15) p109 q109
                        cases e109
                        replace p109 := eq_true p109
                        replace q109 := eq_true q109
                        have p21 : 0 ≤ ((ji15) : Int) := of_decide_eq_true (by first | (with_reducible assumption) | assumption)
                        have q21 : ((ji15) : Int) < ((x8_2.length : Int) : Int) := of_decide_eq_true (by first | (with_reducible assumption) | assumption)
                        obtain ⟨go21, co21, eo21, gb21, gl21, cl21, HG21⟩ := Kd.R_form HO_8.out (by omega)
                        (first | cases eo21 | (injection eo21 with ea_ en_ ec_; (first | subst ea_ | (injection ea_ with ea_; subst ea_)); subst ec_; clear en_))
                        have GB21 := Aside0.mk gb21
                        have GG21 := Aside0.mk HG21
                        clear gb21 gl21 HG21
                        (first | simp only [add_plain] at hx109_0 | skip)
                        obtain ⟨hx21_0, hf21_0⟩ := Kd.R_celln 0 HO_8.out ((ji15) : Int) p21 q21
                        replace p21 := eq_true p21
                        replace q21 := eq_true q21
                        have HP24 := Kd.R_putn HO_8.out ((ji15) : Int) (Go.bits .xor .u8 (rd x8_2 (ji15)) ((ji20) % 256))
                        rw [← Ny110.out] at HP24
                        have HQ24 := Aside0.mk HP24
                        clear HP24
                        refine start_ (n := 14) (S := fun w' => w'.cell? ⟨go21, ((ji15)).toNat, none⟩ = some (.int .u8 (rd x8_2 (ji15)))) (ds := [13]) #[false, false, false, false, false, false, false, false, false, false, false, false, false, false] (by kernel_rfl) rfl rfl (hx109_0) (fun hHeld => ?_); refine with_tabW stowagelaw02_CrcFinds.tab8 stowagelaw02_CrcFinds.bits8 (fun HT_ HW_ => ?_)
                        generalize wr.drew = w22 at HO_8 HB GG21 HQ24 hf21_0 hx109_0 hx21_0 hHeld ⊢
                        refine pure_ (i := 0) (N := some 31) (v := ?_) (a' := ?_) #[true, false, false, false, false, false, false, false, false, false, false, false, false, false] rfl rfl (any_of HT_.out (by kernel_rfl)) (fun _ _ _ h => h) (Or.inl ⟨by rfl, ?_⟩) ?_ ?_
                        rotate_left
                        · intro w'
                          go_simp
                          with_reducible rfl
                        rotate_left
                        · simp only [Act.put, List.setIfInBounds_toArray, List.set_cons_zero, List.set_cons_succ, i64_w, i32_w]
                          rfl
                        refine pure_ (i := 1) (N := some 32) (v := ?_) (a' := ?_) #[true, true, false, false, false, false, false, false, false, false, false, false, false, false] rfl rfl (any_of HT_.out (by kernel_rfl)) (fun _ _ _ h => h) (Or.inl ⟨by rfl, ?_⟩) ?_ ?_
                        rotate_left
                        · intro w'
                          go_simp
                          with_reducible rfl
                        rotate_left
                        · simp only [Act.put, List.setIfInBounds_toArray, List.set_cons_zero, List.set_cons_succ, i64_w, i32_w]
                          rfl
                        refine pure_ (i := 2) (N := some 33) (v := ?_) (a' := ?_) #[true, true, true, false, false, false, false, false, false, false, false, false, false, false] rfl rfl (any_of HT_.out (by kernel_rfl)) (fun _ _ _ h => h) (Or.inl ⟨by rfl, ?_⟩) ?_ ?_
                        rotate_left
                        · intro w'
                          go_simp
                          with_reducible rfl
                        rotate_left
                        · simp only [Act.put, List.setIfInBounds_toArray, List.set_cons_zero, List.set_cons_succ, i64_w, i32_w]
                          rfl
                        refine pure_ (i := 3) (N := some 34) (v := ?_) (a' := ?_) #[true, true, true, true, false, false, false, false, false, false, false, false, false, false] rfl rfl (any_of HT_.out (by kernel_rfl)) (fun _ _ _ h => h) (Or.inl ⟨by rfl, ?_⟩) ?_ ?_
                        rotate_left
                        · intro w'
                          go_simp
                          with_reducible rfl
                        rotate_left
                        · simp only [Act.put, List.setIfInBounds_toArray, List.set_cons_zero, List.set_cons_succ, i64_w, i32_w]
                          rfl
                        refine pure_ (i := 4) (N := some 35) (v := ?_) (a' := ?_) #[true, true, true, true, true, false, false, false, false, false, false, false, false, false] rfl rfl (any_of HT_.out (by kernel_rfl)) (fun _ _ _ h => h) (Or.inl ⟨by rfl, ?_⟩) ?_ ?_
                        rotate_left
                        · intro w'
                          go_simp
                          with_reducible rfl
                        rotate_left
                        · simp only [Act.put, List.setIfInBounds_toArray, List.set_cons_zero, List.set_cons_succ, i64_w, i32_w]
                          rfl
                        refine pure_ (i := 6) (N := some 37) (v := ?_) (a' := ?_) #[true, true, true, true, true, false, true, false, false, false, false, false, false, false] rfl rfl (any_of HT_.out (by kernel_rfl)) (fun _ _ _ h => h) (Or.inl ⟨by rfl, ?_⟩) ?_ ?_
                        rotate_left
                        · intro w'
                          go_simp
                          with_reducible rfl
                        rotate_left
                        · simp only [Act.put, List.setIfInBounds_toArray, List.set_cons_zero, List.set_cons_succ, i64_w, i32_w]
                          rfl
                        refine pure_ (i := 7) (N := some 38) (v := ?_) (a' := ?_) #[true, true, true, true, true, false, true, true, false, false, false, false, false, false] rfl rfl (any_of HT_.out (by kernel_rfl)) (fun _ _ _ h => h) (Or.inl ⟨by rfl, ?_⟩) ?_ ?_
                        rotate_left
                        · intro w'
                          go_simp
                          with_reducible rfl
                        rotate_left
                        · simp only [Act.put, List.setIfInBounds_toArray, List.set_cons_zero, List.set_cons_succ, i64_w, i32_w]
                          rfl
                        refine pure_ (i := 8) (N := some 39) (v := ?_) (a' := ?_) #[true, true, true, true, true, false, true, true, true, false, false, false, false, false] rfl rfl (any_of HT_.out (by kernel_rfl)) (fun _ _ _ h => h) (Or.inl ⟨by rfl, ?_⟩) ?_ ?_
                        rotate_left
                        · intro w'
                          go_simp
                          with_reducible rfl
                        rotate_left
                        · simp only [Act.put, List.setIfInBounds_toArray, List.set_cons_zero, List.set_cons_succ, i64_w, i32_w]
                          rfl
                        refine pure_ (i := 9) (N := some 40) (v := ?_) (a' := ?_) #[true, true, true, true, true, false, true, true, true, true, false, false, false, false] rfl rfl (any_of HT_.out (by kernel_rfl)) (fun _ _ _ h => h) (Or.inl ⟨by rfl, ?_⟩) ?_ ?_
                        rotate_left
                        · intro w'
                          go_simp
                          with_reducible rfl
                        rotate_left
                        · simp only [Act.put, List.setIfInBounds_toArray, List.set_cons_zero, List.set_cons_succ, i64_w, i32_w]
                          rfl
                        refine pure_ (i := 10) (N := some 41) (v := ?_) (a' := ?_) #[true, true, true, true, true, false, true, true, true, true, true, false, false, false] rfl rfl (any_of HT_.out (by kernel_rfl)) (fun _ _ _ h => h) (Or.inl ⟨by rfl, ?_⟩) ?_ ?_
                        rotate_left
                        · intro w'
                          go_simp
                          with_reducible rfl
                        rotate_left
                        · simp only [Act.put, List.setIfInBounds_toArray, List.set_cons_zero, List.set_cons_succ, i64_w, i32_w]
                          rfl
                        refine take_ (i := 5) (N := some 36) (v := ?_) (a' := ?_) #[true, true, true, true, true, true, true, true, true, true, true, false, false, false] rfl rfl (take_ofW HT_.out HW_.out (by kernel_rfl)) (fun _ _ _ h => h) (Or.inl ⟨by rfl, ?_⟩) hHeld ?_ ?_
                        rotate_left
                        · intro w' s0
                          go_simp
                          with_reducible rfl
                        rotate_left
                        · simp only [Act.put, List.setIfInBounds_toArray, List.set_cons_zero, List.set_cons_succ, i64_w, i32_w]
                          rfl
                        refine pure_ (i := 11) (N := some 42) (v := ?_) (a' := ?_) #[true, true, true, true, true, true, true, true, true, true, true, true, false, false] rfl rfl (any_of HT_.out (by kernel_rfl)) (fun _ _ _ h => h) (Or.inl ⟨by rfl, ?_⟩) ?_ ?_
                        rotate_left
                        · intro w'
                          go_simp
                          with_reducible rfl
                        rotate_left
                        · simp only [Act.put, List.setIfInBounds_toArray, List.set_cons_zero, List.set_cons_succ, i64_w, i32_w]
                          rfl
                        refine pure_ (i := 12) (N := some 43) (v := ?_) (a' := ?_) #[true, true, true, true, true, true, true, true, true, true, true, true, true, false] rfl rfl (any_of HT_.out (by kernel_rfl)) (fun _ _ _ h => h) (Or.inl ⟨by rfl, ?_⟩) ?_ ?_
                        rotate_left
                        · intro w'
                          go_simp
                          with_reducible rfl
                        rotate_left
                        · simp only [Act.put, List.setIfInBounds_toArray, List.set_cons_zero, List.set_cons_succ, i64_w, i32_w]
                          rfl
                        refine last_ (i := 13) (N := none) #[true, true, true, true, true, true, true, true, true, true, true, true, true, true] rfl rfl (one_of HT_.out (by kernel_rfl)) (by decide) (fun K hK => ?_)
                        refine skip_ (w1 := ?_) (by rfl) rfl ?_ ?_
                        rotate_left
                        · go_simp
                          rfl
                        refine hK.out _ _ ?_
                        clear hK K
                        refine done_ (done_of HT_.out (by kernel_rfl)) ?_
                        try go_wp2
                        go_roundg k2
                        case measure => have := HJ3.out; have := HK2.out; omega
                        case rel => exact ⟨(y110), (wrap64 (x9_2 + 1)), (by first | rfl | (simp; done) | (simp [*]; done)), H', ⟨by have := HJ3.out; have := HK2.out; omega⟩, ⟨by (with_reducible repeat (first | apply Kd.R_alloc | apply Kd.R_drewN | apply Kd.R_drew)); exact HQ24.out⟩, ⟨by repeat (first | (with_reducible first | exact HB.out | apply below_alloc | apply pw_below_drewN | apply below_drew1 | refine below_set ?_ GB21.out) | exact HB.out)⟩⟩
                      · rw [if_neg c19] at H
                        exact absurd H (by simp)
                    · rw [if_neg c17] at H
                      exact absurd H (by simp)
                  · rw [if_neg c16] at H
                    exact absurd H (by simp)
                · rw [if_neg c14] at H
                  have c14b0 : decide (x9_2 < 4) = false := decide_eq_false c14
                  clear c14
                  replace H := Option.bind_eq_some_iff.mp H
                  obtain ⟨t111, A250, H⟩ := H
                  replace H : (if t111 = true then ((crc_Sum.f x8_2).bind fun t112 => ((crc_Sum.f l0).bind fun t113 => (some (t112 != t113)))) else (some false)) = some r := H
                  have A25 := Aside0.mk A250
                  clear A250
                  by_cases c26 : t111 = true
                  · subst c26
                    have H1 : ((crc_Sum.f x8_2).bind fun t112 => ((crc_Sum.f l0).bind fun t113 => (some (t112 != t113)))) = some r := by rw [if_pos rfl] at H; exact H
                    clear H
                    have H := H1
                    clear H1
                    replace H := Option.bind_eq_some_iff.mp H
                    obtain ⟨t112, A270, H⟩ := H
                    replace H : ((crc_Sum.f l0).bind fun t113 => (some (t112 != t113))) = some r := H
                    have A27 := Aside0.mk A270
                    clear A270
                    replace H := Option.bind_eq_some_iff.mp H
                    obtain ⟨t113, A280, H⟩ := H
                    replace H : (some (t112 != t113)) = some r := H
                    have A28 := Aside0.mk A280
                    clear A280
                    obtain rfl := Option.some.inj H
                    go_wp2_with (first | ((with_reducible refine gate_callee (f := 11) rfl ?_); refine goesL_ (some 44) rfl rfl Try.func11 (by kernel_rfl) rfl #[] rfl (by (try simp only [List.map_toArray, List.map_cons, List.map_nil]); first | done | rfl | (simp only [List.length_drop, List.length_take]; rfl)) ?_; (with_reducible refine (stowagelaw02_awake.calls  true _ A25.out).mono ?_); rintro e w29 ⟨rfl, hb⟩; refine ⟨_, rfl, ?_⟩; have n0_ := Aside0.mk (Kd.R_below (by (with_reducible repeat (first | apply Kd.R_alloc | apply Kd.R_drewN | apply Kd.R_drew)); exact HO_8.out) hb); have n1_ := Aside0.mk (below_step (by repeat (first | (with_reducible first | exact HB.out | apply below_alloc | apply pw_below_drewN | apply below_drew1) | exact HB.out)) hb); clear HO_8; clear HB; have HO_8 := n0_; have HB := n1_; clear n0_ n1_; (try clear hb); (try clear hb2); (try clear hk); (try clear hi); obtain ⟨Ao30, co30, eo30⟩ := Kd.R_slice HO_8.out; subst eo30) | (go_at_call 12; (with_reducible refine (crc_Sum.calls _ _ x8_2 t112 _ ?side1 ?side2 A27.out).mono ?_); (case side1 => repeat (first | exact (Kd.R_reads' HO_8.out).2.2 | (with_reducible refine Kd.C_alloc ?_ _) | (with_reducible refine Kd.C_drewN ?_ _) | (with_reducible refine Kd.C_drew ?_))); (case side2 => exact (Kd.R_reads' HO_8.out).2.1); rintro e w31 ⟨rfl, hb⟩; have n0_ := Aside0.mk (Kd.R_below (by (with_reducible repeat (first | apply Kd.R_alloc | apply Kd.R_drewN | apply Kd.R_drew)); exact HO_8.out) hb); have n1_ := Aside0.mk (below_step (by repeat (first | (with_reducible first | exact HB.out | apply below_alloc | apply pw_below_drewN | apply below_drew1) | exact HB.out)) hb); clear HO_8; clear HB; have HO_8 := n0_; have HB := n1_; clear n0_ n1_; (try clear hb); (try clear hb2); (try clear hk); (try clear hi)) | (go_at_call 12; (with_reducible refine (crc_Sum.calls _ _ l0 t113 _ ?side1 ?side2 A28.out).mono ?_); (case side1 => repeat (first | exact (Kd.C_below HR0.out HB.out) | (with_reducible refine Kd.C_alloc ?_ _) | (with_reducible refine Kd.C_drewN ?_ _) | (with_reducible refine Kd.C_drew ?_))); (case side2 => exact HC0.out); rintro e w32 ⟨rfl, hb⟩; have n0_ := Aside0.mk (Kd.R_below (by (with_reducible repeat (first | apply Kd.R_alloc | apply Kd.R_drewN | apply Kd.R_drew)); exact HO_8.out) hb); have n1_ := Aside0.mk (below_step (by repeat (first | (with_reducible first | exact HB.out | apply below_alloc | apply pw_below_drewN | apply below_drew1) | exact HB.out)) hb); clear HO_8; clear HB; have HO_8 := n0_; have HB := n1_; clear n0_ n1_; (try clear hb); (try clear hb2); (try clear hk); (try clear hi)))
                    go_ret
                    exact ⟨by first | rfl | (simp [errW_none, errW_some] <;> rfl) | (simp [*, errW_none, errW_some] <;> rfl), by repeat (first | (with_reducible first | exact HB.out | apply below_alloc | apply pw_below_drewN | apply below_drew1) | exact HB.out)⟩
                  · replace c26 := Bool.eq_false_iff.mpr c26
                    subst c26
                    have H1 : (some false) = some r := by rw [if_neg (show ¬ (false = true) by decide)] at H; exact H
                    clear H
                    have H := H1
                    clear H1
                    obtain rfl := Option.some.inj H
                    go_wp2_with (first | ((with_reducible refine gate_callee (f := 11) rfl ?_); refine goesL_ (some 44) rfl rfl Try.func11 (by kernel_rfl) rfl #[] rfl (by (try simp only [List.map_toArray, List.map_cons, List.map_nil]); first | done | rfl | (simp only [List.length_drop, List.length_take]; rfl)) ?_; (with_reducible refine (stowagelaw02_awake.calls  false _ A25.out).mono ?_); rintro e w33 ⟨rfl, hb⟩; refine ⟨_, rfl, ?_⟩; have n0_ := Aside0.mk (Kd.R_below (by (with_reducible repeat (first | apply Kd.R_alloc | apply Kd.R_drewN | apply Kd.R_drew)); exact HO_8.out) hb); have n1_ := Aside0.mk (below_step (by repeat (first | (with_reducible first | exact HB.out | apply below_alloc | apply pw_below_drewN | apply below_drew1) | exact HB.out)) hb); clear HO_8; clear HB; have HO_8 := n0_; have HB := n1_; clear n0_ n1_; (try clear hb); (try clear hb2); (try clear hk); (try clear hi)))
                    go_ret
                    exact ⟨by first | rfl | (simp [errW_none, errW_some] <;> rfl) | (simp [*, errW_none, errW_some] <;> rfl), by repeat (first | (with_reducible first | exact HB.out | apply below_alloc | apply pw_below_drewN | apply below_drew1) | exact HB.out)⟩
          · rw [if_neg c10] at H
            exact absurd H (by simp)

/-- THE ONE PURE STATEMENT of stowagelaw02_CrcFinds: yours. -/
def stowagelaw02_CrcFinds.Pure : Prop := ∀ (l0 : List Int) (a1 : Int) (a2 : Int), l0.length ≤ maxLen → l0.length * 1 ≤ 140737488351232 → (∀ x ∈ l0, (Lit.int .u8 x).wf = true) → (Lit.int .u16 a1).wf = true → (Lit.int .u32 a2).wf = true → ∃ k, stowagelaw02_CrcFinds.f k l0 a1 a2 = some true
theorem stowagelaw02_CrcFinds.walk (P : stowagelaw02_CrcFinds.Pure) (a0 : Option Addr) (len0 cap0 : Nat) (z0 : List Int) (a1 : Int) (a2 : Int) (w : World) (w0 : (a0 = none ∧ len0 = 0 ∧ cap0 = 0 ∧ z0 = []) ∨ ∃ x, a0 = some x ∧ len0 ≤ cap0 ∧ cap0 ≤ maxLen ∧ z0.length = cap0 ∧ (∀ i, i < z0.length → w.cell? (x.add i) = some (.int .u8 (z0.getD i 0))) ∧ ∀ n ∈ z0, (Lit.int .u8 n).wf = true) (y0 : len0 * 1 ≤ 140737488351232) (w1 : (Lit.int .u16 a1).wf = true) (w2 : (Lit.int .u32 a2).wf = true) :
    Calls Try.prog 4 #[.slice a0 len0 cap0, .int .u16 a1, .int .u32 a2] w fun e w' => e = .returned (.bool true) ∧ Below w.heap.size w w' := by
  obtain ⟨l0, rfl, hr0, hm0, hw0, hc0⟩ := ReadsInt.ofRowC w0
  obtain ⟨k, h⟩ := P l0 a1 a2 hm0 y0 hw0 w1 w2
  refine (stowagelaw02_CrcFinds.calls k _ _ l0 a1 a2 true w (Kd.C_of_reads (d := (0 : Int)) (h1 := fun _ => rfl) hr0) hc0 h).mono ?_
  rintro e w' ⟨rfl, hd⟩
  exact ⟨rfl, hd⟩

end Go.Proofs.Ytcjnbcfhbiijbaa.QCrcFinds
