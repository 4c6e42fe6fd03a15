/- Arguments of whatever shape (numbers, bools, strings, structs, slices of such) taken off the row's reading into the kinds by which the contracts speak; what is known of them besides: each number is of its kind, each string and slice is within the form's reach. -/
import Derived.Test.YtjfdjbmahahllaaWWords
import Derived.Test.YtjfdjbmahahllaaWFoot
import Derived.Deep.Slices
import Derived.ChangeArms
import Derived.SizedLaws
namespace Go.Proofs.Ytjfdjbmahahllaa.OpenRows
open Go Go.ChangeShapes Go.WideShapes Go.Deep Go.Proofs.YtjfdjbmahahllaaW.PrintWords
structure Rdz {α : Type} (P : Program) (t : TypeId) (d : Kd α) (G : α → Prop) : Prop where
  out : ∀ {H : Type} {enc : TypeId × Value → H} {w : World} {base : Nat} {spare : Nat → Bool} {held : Bool} {fuel : Nat} {cs : List Value} {x : DataW H × List MemPlace},
    DataW.trod enc P w base spare held fuel t cs = some x → (∀ n ∈ x.1.weights P t, n ≤ reachBytes) → ∃ v, d.K w v cs ∧ G v
theorem reach_eq : reachBytes = 140737488351232 := by decide
section
variable {P : Program} {t e : TypeId} {α β : Type} {d : Kd α} {G : α → Prop}
theorem rd_int {k : IntKind} (hu : P.underlying t = some (.int k)) : Rdz P t (Kd.int k) (fun v => (Lit.int k v).wf = true) :=
  ⟨fun h _ => by
    obtain ⟨n, rfl, _, hw⟩ := DataW.trod_int hu h
    exact ⟨n, rfl, hw⟩⟩
theorem rd_bool (hu : P.underlying t = some .bool) : Rdz P t Kd.bool (fun _ => True) :=
  ⟨fun h _ => by
    obtain ⟨n, rfl, _⟩ := DataW.trod_bool hu h
    exact ⟨n, rfl, trivial⟩⟩
theorem rd_string (hu : P.underlying t = some .string) : Rdz P t Kd.string (fun s => s.size ≤ 140737488351232) :=
  ⟨fun h hz => by
    obtain ⟨s, rfl, rfl, _⟩ := DataW.trod_string hu h
    refine ⟨s, rfl, ?_⟩
    have := hz s.data.toList.length (by simp [DataW.weights])
    rw [reach_eq, Array.length_toList] at this
    exact this⟩
theorem rd_mono {G' : α → Prop} (h : Rdz P t d G) (hg : ∀ v, G v → G' v) : Rdz P t d G' :=
  ⟨fun hh hz => by
    obtain ⟨v, hv, hG⟩ := h.out hh hz
    exact ⟨v, hv, hg v hG⟩⟩
theorem rd_iso {f : β → α} (g : α → β) (hf : ∀ a, f (g a) = a) (h : Rdz P t d G) : Rdz P t (d.iso f) (fun v => G (f v)) :=
  ⟨fun hh hz => by
    obtain ⟨v, hv, hG⟩ := h.out hh hz
    refine ⟨g v, ?_, by rw [hf]; exact hG⟩
    show d.K _ (f (g v)) _
    rw [hf]
    exact hv⟩
theorem list_of_all {Q : Nat → α → Prop} : ∀ {n : Nat}, (∀ i, i < n → ∃ v, Q i v) → ∃ xs : List α, xs.length = n ∧ ∀ i v, xs[i]? = some v → Q i v
  | 0, _ => ⟨[], rfl, fun i v h => by simp at h⟩
  | n + 1, h => by
    obtain ⟨xs, hl, hx⟩ := list_of_all (n := n) (fun i hi => h i (by omega))
    obtain ⟨v, hv⟩ := h n (by omega)
    refine ⟨xs ++ [v], by simp [hl], fun i u hu => ?_⟩
    by_cases hi : i < xs.length
    · rw [List.getElem?_append_left hi] at hu
      exact hx i u hu
    · have hin : i = n := by
        have := (List.getElem?_eq_some_iff.1 hu).1
        simp at this
        omega
      subst hin
      rw [List.getElem?_append_right (by omega), hl] at hu
      simp at hu
      subst hu
      exact hv
theorem weightsAll_mem {H : Type} {D : Nat → DataW H} {n i : Nat} (hi : i < n) {q : Nat} (hq : q ∈ (D i).weights P e) : q ∈ DataW.weightsAll P e ((List.range n).map D) := by
  have key : ∀ (l : List (DataW H)) (y : DataW H), y ∈ l → q ∈ y.weights P e → q ∈ DataW.weightsAll P e l := by
    intro l
    induction l with
    | nil => intro y hy; simp at hy
    | cons a r ih =>
      intro y hy hq
      simp only [DataW.weightsAll, List.mem_append]
      rcases List.mem_cons.1 hy with rfl | hy
      · exact .inl hq
      · exact .inr (ih y hy hq)
  exact key _ (D i) (List.mem_map.2 ⟨i, List.mem_range.2 hi, rfl⟩) hq
theorem rd_slice {B : Nat} (hu : P.underlying t = some (.slice e)) (hc : P.cellsOf e = d.sz) (hB : P.bytesOf e = B) (he : Rdz P e d G) :
    Rdz P t (Kd.slice e d) (fun xs => xs.length ≤ maxLen ∧ xs.length * B ≤ 140737488351232 ∧ ∀ x ∈ xs, G x) := by
  refine ⟨fun {H enc w base spare held fuel cs x} h hz => ?_⟩
  rcases open_slice hu h with ⟨rfl, _⟩ | ⟨a, len, cap, m, n, D, Pl, rfl, hb, hl, hm, hmm, rfl, hi⟩
  · exact ⟨[], ⟨none, 0, rfl, Nat.le_refl _, rfl, by simp, fun h => absurd h (by simp)⟩, by simp, by simp, by simp⟩
  · have hlm : len ≤ m := by rw [hmm]; split <;> omega
    have hz0 := hz (((List.range len).map D).length + ((List.range (m - len)).map fun j => D (len + j)).length * 1 |>.mul (P.bytesOf e)) (by
      simp only [DataW.weights, hu, Nat.mul_one]
      exact List.mem_cons_self)
    have hz1 : len * B ≤ 140737488351232 := by
      rw [reach_eq] at hz0
      have e1 : (((List.range len).map D).length + ((List.range (m - len)).map fun j => D (len + j)).length * 1) = m := by simp; omega
      rw [e1, hB] at hz0
      exact Nat.le_trans (Nat.mul_le_mul_right _ hlm) hz0
    obtain ⟨xs, hxl, hx⟩ := list_of_all (Q := fun i v => (∃ c, c.length = d.sz ∧ d.K w v c ∧ ∀ j u, c[j]? = some u → w.cell? (a.add (i * d.sz + j)) = some u) ∧ G v) (n := len) (fun i hin => by
      obtain ⟨cs', h1, h2⟩ := hi i (by omega)
      obtain ⟨v, hv, hG⟩ := he.out h2 (fun q hq => hz q (by
        simp only [DataW.weights, hu]
        exact List.mem_cons_of_mem _ (List.mem_append_left _ (weightsAll_mem hin hq))))
      obtain ⟨_, hcl, hat⟩ := World.cells?_some h1
      rw [hc] at hcl hat
      refine ⟨v, ⟨cs', hcl, hv, fun j u hu' => ?_⟩, hG⟩
      have hj : j < d.sz := by
        have := (List.getElem?_eq_some_iff.1 hu').1
        omega
      rw [← Go.Deep.add_add, hat j hj]
      exact hu')
    have hml : len ≤ maxLen := Nat.le_trans hl hm
    refine ⟨xs, ⟨some a, cap, by rw [hxl], by rw [hxl]; exact hl, rfl, by rw [hxl]; unfold maxLen at hml; omega, fun _ => ⟨a, rfl, fun j p hj => (hx j p hj).1⟩⟩, by rw [hxl]; exact hml, by rw [hxl]; exact hz1, fun x hxm => ?_⟩
    obtain ⟨i, hi'⟩ := List.getElem?_of_mem hxm
    exact (hx i x hi').2
structure RdF (P : Program) (fs : List Field) (off : Nat) (d : Kd α) (G : α → Prop) : Prop where
  out : ∀ {H : Type} {enc : TypeId × Value → H} {w : World} {base : Nat} {spare : Nat → Bool} {held : Bool} {fuel : Nat} {cs : List Value} {xs : List (DataW H × List MemPlace)},
    xs.length = fs.length → cs.length = off + d.sz → (∀ (i : Nat) (f : Field), fs[i]? = some f → DataW.trod enc P w base spare held fuel f.type ((cs.drop f.offset).take (P.cellsOf f.type)) = xs[i]?) →
    (∀ n ∈ DataW.weightsEach P (fs.map Field.type) (xs.map Prod.fst), n ≤ reachBytes) → ∃ v, d.K w v (cs.drop off) ∧ G v
theorem rdf_last {f : Field} {off : Nat} (ho : f.offset = off) (hc : P.cellsOf f.type = d.sz) (h : Rdz P f.type d G) : RdF P [f] off d G := by
  refine ⟨fun {H enc w base spare held fuel cs xs} hl hcl hx hz => ?_⟩
  match xs, hl with
  | [y], _ =>
    have h0 := hx 0 f rfl
    rw [ho, hc, List.take_of_length_le (by simp; omega)] at h0
    exact h.out h0 (fun n hn => hz n (by simp [DataW.weightsEach]; exact hn))
theorem rdf_cons {a : Kd α} {b : Kd β} {Ga : α → Prop} {Gb : β → Prop} {f : Field} {fs : List Field} {off : Nat} (ho : f.offset = off) (hc : P.cellsOf f.type = a.sz) (h : Rdz P f.type a Ga) (hr : RdF P fs (off + a.sz) b Gb) :
    RdF P (f :: fs) off (Kd.pair a b) (fun v => Ga v.1 ∧ Gb v.2) := by
  refine ⟨fun {H enc w base spare held fuel cs xs} hl hcl hx hz => ?_⟩
  match xs, hl with
  | y :: ys, hl =>
    have hcl' : cs.length = off + (a.sz + b.sz) := hcl
    have h0 := hx 0 f rfl
    rw [ho, hc] at h0
    obtain ⟨v0, k0, g0⟩ := h.out h0 (fun n hn => hz n (by simp [DataW.weightsEach]; exact .inl hn))
    obtain ⟨v1, k1, g1⟩ := hr.out (xs := ys) (cs := cs) (by simpa using hl) (by omega) (fun i g hg => hx (i + 1) g (by simpa using hg)) (fun n hn => hz n (by simp [DataW.weightsEach]; exact .inr (by simpa using hn)))
    refine ⟨(v0, v1), ⟨_, _, ?_, k0, k1⟩, g0, g1⟩
    rw [← List.drop_drop, List.take_append_drop]
theorem rd_struct {fs : Array Field} (hu : P.underlying t = some (.struct fs)) (hc : P.cellsOf t = d.sz) (h : RdF P fs.toList 0 d G) : Rdz P t d G := by
  refine ⟨fun {H enc w base spare held fuel cs x} hh hz => ?_⟩
  obtain ⟨xs, n, _, rfl, hcl, hxl, hx⟩ := DataW.trod_struct hu hh
  obtain ⟨v, hv, hG⟩ := h.out (xs := xs) (cs := cs) (by simpa using hxl) (by rw [hcl, hc]; omega) (fun i f hf => hx i f (by simpa using hf)) (fun q hq => hz q (by simp only [DataW.weights, hu]; exact hq))
  exact ⟨v, by simpa using hv, hG⟩
theorem heapSlice {e' : Nat} (hd : Kd.Heap d) : Kd.Heap (Kd.slice e' d) := ⟨by
  rintro w w1 x cs hb ⟨A, c, rfl, hl, hr⟩
  exact ⟨A, c, rfl, hl, hd.C hb hr⟩⟩
theorem heapIso {f : β → α} (hd : Kd.Heap d) : Kd.Heap (Kd.iso d f) := ⟨fun hb h => hd.K hb h⟩
/-- An argument. -/
theorem rd_arg {H : Type} {enc : TypeId × Value → H} {W : World} {base : Nat} {spare : Nat → Bool} {held : Bool} {v : Value} {x : DataW H} {p : List MemPlace} {ts : List TypeId} {ds : List (DataW H)} {j : Nat} (h : Rdz P t d G)
    (hsz : (DataW.weightsEach P ts ds).all (· ≤ reachBytes) = true) (ht : ts[j]? = some t) (hd : ds[j]? = some x) (hh : DataW.Trod enc P W base spare held t v x p) : ∃ y, d.K W y v.cells.toList ∧ G y := by
  obtain ⟨fuel, hf⟩ := hh
  exact h.out hf (fun n hn => by simpa using List.all_eq_true.1 hsz n (DataW.weights_mem_each ht hd n hn))
theorem arg_int {r : Reach} {W : World} {b0 : Nat} {v : Value} {k : IntKind} {y : Int} (hu : P.underlying t = some (.int k)) (hval : Value.okWide P W r b0 t v) (hK : (Kd.int k).K W y v.cells.toList) : v = .int k y := by
  obtain ⟨n, rfl⟩ := okWide_int hu hval
  have h : [Value.int k n] = [Value.int k y] := hK
  injection h
theorem arg_bool {r : Reach} {W : World} {b0 : Nat} {v : Value} {y : Bool} (hu : P.underlying t = some .bool) (hval : Value.okWide P W r b0 t v) (hK : Kd.bool.K W y v.cells.toList) : v = .bool y := by
  obtain ⟨n, rfl⟩ := okWide_bool hu hval
  have h : [Value.bool n] = [Value.bool y] := hK
  injection h
theorem arg_string {r : Reach} {W : World} {b0 : Nat} {v : Value} {y : ByteArray} (hu : P.underlying t = some .string) (hval : Value.okWide P W r b0 t v) (hK : Kd.string.K W y v.cells.toList) : v = .string y := by
  obtain ⟨n, rfl⟩ := okWide_string hu hval
  have h : [Value.string n] = [Value.string y] := hK
  injection h
theorem arg_slice {r : Reach} {W : World} {b0 : Nat} {v : Value} {xs : List α} (hu : P.underlying t = some (.slice e)) (hval : Value.okWide P W r b0 t v) (hK : (Kd.slice e d).K W xs v.cells.toList) : ∃ A c, v = .slice A xs.length c ∧ xs.length ≤ c ∧ d.C W A xs.length xs := by
  obtain ⟨a, len, cap, rfl⟩ := okWide_slice hu hval
  obtain ⟨A, c, h, hl, hC⟩ := hK
  have h : [Value.slice a len cap] = [Value.slice A xs.length c] := h
  injection h with h
  exact ⟨A, c, h, hl, hC⟩
theorem arg_struct {r : Reach} {W : World} {b0 : Nat} {v : Value} {fs : Array Field} {cs : List Value} (hu : P.underlying t = some (.struct fs)) (hval : Value.okWide P W r b0 t v) (hcs : v.cells.toList = cs) : v = .agg cs.toArray := by
  obtain ⟨x, rfl, _⟩ := okWide_struct hu hval
  have h : x.toList = cs := hcs
  rw [← h]
end
end Go.Proofs.Ytjfdjbmahahllaa.OpenRows
