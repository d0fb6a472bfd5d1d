/-
  Arguments of the tree's laws, opened: an operation, a script of operations, a slice of numbers.
-/
import Derived.Test.YtoacobcbloljkaaGreatDoorOpenE
import Derived.Test.YtoacobcbloljkaaGreatDoorTreeMem
namespace Go.Proofs.YtoacobcbloljkaaGreatDoor
open Go.ChangeShapes Go.WideShapes Go.ChangeAt Go.RowKit Go.Deep

section
variable {H : Type} {enc : TypeId × Value → H} {W : World} {base : Nat} {spare : Nat → Bool} {held : Bool} {fuel : Nat} {cs : List Value} {x : DataW H × List MemPlace}

/-- A slice of elements of one kind, read as a list. -/
theorem trod_slice_of {X : Type} [Inhabited X] {P : Program} (cx : X → List Value) (Q : X → Prop) {t e : TypeId} {sz bytes B : Nat} (ht : P.underlying t = some (.slice e)) (hc : P.cellsOf e = sz) (hb : P.bytesOf e = bytes) (hp : 0 < sz)
    (hop : ∀ fuel cs x, DataW.trod enc P W base spare held fuel e cs = some x → ∃ o, cs = cx o ∧ Q o) (hl : ∀ o, (cx o).length = sz)
    (h : DataW.trod enc P W base spare held fuel t cs = some x) (hw : ∀ n ∈ x.1.weights P t, n ≤ B) : ∃ (A : Option Addr) (n c : Nat) (l : List X), cs = [.slice A n c] ∧ Rd W sz A n (l.flatMap cx) ∧ (∀ o ∈ l, Q o) ∧ l.length = n ∧ n * bytes ≤ B ∧ n ≤ c := by
  rcases open_slice ht h with ⟨rfl, _⟩ | ⟨a, len, cap, m, n, D, Pl, rfl, _, hlc, _, hm, rfl, hi⟩
  · exact ⟨none, 0, 0, [], rfl, ⟨by simp, fun h => absurd h (by omega)⟩, by simp, rfl, by omega, by omega⟩
  · have hlm : len ≤ m := by rw [hm]; split <;> omega
    have hk : ∀ i, i < len → ∃ o : X, Q o ∧ ∀ k u, (cx o)[k]? = some u → W.cell? (a.add (i * sz + k)) = some u := by
      intro i hil
      obtain ⟨cs', hcs, htr⟩ := hi i (by omega)
      rw [hc] at hcs
      obtain ⟨o, rfl, hq⟩ := hop _ _ _ htr
      obtain ⟨_, _, hat⟩ := World.cells?_some hcs
      refine ⟨o, hq, fun k u hu => ?_⟩
      have hk : k < sz := by have := (List.getElem?_eq_some_iff.1 hu).1; rw [hl] at this; exact this
      have := hat k hk
      rw [add_assoc_] at this
      rw [this, hu]
    obtain ⟨f, hfn⟩ := Classical.axiomOfChoice (r := fun (i : Nat) (o : X) => i < len → Q o ∧ ∀ k u, (cx o)[k]? = some u → W.cell? (a.add (i * sz + k)) = some u) (fun i => by
      by_cases h : i < len
      · obtain ⟨k, hk⟩ := hk i h
        exact ⟨k, fun _ => hk⟩
      · exact ⟨default, fun q => absurd q h⟩)
    have hlen : ∀ l : List X, (l.flatMap cx).length = l.length * sz := fun l => by
      induction l with
      | nil => simp
      | cons o l ih => rw [List.flatMap_cons, List.length_append, ih, hl, List.length_cons, Nat.succ_mul, Nat.add_comm]
    refine ⟨some a, len, cap, (List.range len).map f, rfl, ⟨by rw [hlen]; simp, fun h0 => ⟨a, rfl, ?_, fun j u hu => ?_⟩⟩, ?_, by simp, ?_, hlc⟩
    · obtain ⟨u, hu⟩ : ∃ u, (cx (f 0))[0]? = some u := ⟨_, List.getElem?_eq_getElem (by rw [hl]; exact hp)⟩
      have := World.block_lt_of_cell? _ _ ((hfn 0 h0).2 0 u hu)
      rwa [add_block] at this
    · have hj : j < len * sz := by
        have := (List.getElem?_eq_some_iff.1 hu).1
        rw [hlen] at this
        simpa using this
      have hj2 : j / sz < len := Nat.div_lt_of_lt_mul (by rw [Nat.mul_comm]; exact hj)
      have hq : ((List.range len).map f)[j / sz]? = some (f (j / sz)) := by simp [hj2]
      have hj' : j = j / sz * sz + j % sz := by rw [Nat.mul_comm]; exact (Nat.div_add_mod j sz).symm
      rw [hj', cells_get cx sz hl _ _ _ hq (j % sz) (Nat.mod_lt _ hp)] at hu
      rw [hj']
      exact (hfn (j / sz) hj2).2 _ u hu
    · intro o ho
      obtain ⟨i, hi, rfl⟩ := List.mem_map.1 ho
      exact (hfn i (List.mem_range.1 hi)).1
    · have := (weights_slice ht hw).1
      rw [hb] at this
      simp only [List.length_map, List.length_range] at this
      exact Nat.le_trans (Nat.mul_le_mul_right _ (by omega)) this

theorem cellsOf_op : Tryz.prog.cellsOf 96 = 7 := by kernel_rfl
def OpIn (o : Tr.Op) : Prop := inI o.1 ∧ inI o.2.1 ∧ inI o.2.2.2.1 ∧ inI o.2.2.2.2.2.1

set_option maxRecDepth 100000 in
theorem trod_op (h : DataW.trod enc Tryz.prog W base spare held fuel 96 cs = some x) : ∃ o : Tr.Op, cs = cOp o ∧ OpIn o := by
  obtain ⟨xs, n, _, _, hlen, hxl, hf⟩ := DataW.trod_struct Tryz.underlying96 h
  match cs, hlen.trans cellsOf_op with
  | [a, b, c, d, e, f, g], _ =>
    match xs, hxl with
    | [y0, y1, y2, y3, y4, y5, y6], _ =>
      have h0 : DataW.trod enc Tryz.prog W base spare held n 3 (([a, b, c, d, e, f, g].drop 0).take (Tryz.prog.cellsOf 3)) = some y0 := hf 0 _ rfl
      have h1 : DataW.trod enc Tryz.prog W base spare held n 3 (([a, b, c, d, e, f, g].drop 1).take (Tryz.prog.cellsOf 3)) = some y1 := hf 1 _ rfl
      have h2 : DataW.trod enc Tryz.prog W base spare held n 9 (([a, b, c, d, e, f, g].drop 2).take (Tryz.prog.cellsOf 9)) = some y2 := hf 2 _ rfl
      have h3 : DataW.trod enc Tryz.prog W base spare held n 3 (([a, b, c, d, e, f, g].drop 3).take (Tryz.prog.cellsOf 3)) = some y3 := hf 3 _ rfl
      have h4 : DataW.trod enc Tryz.prog W base spare held n 9 (([a, b, c, d, e, f, g].drop 4).take (Tryz.prog.cellsOf 9)) = some y4 := hf 4 _ rfl
      have h5 : DataW.trod enc Tryz.prog W base spare held n 3 (([a, b, c, d, e, f, g].drop 5).take (Tryz.prog.cellsOf 3)) = some y5 := hf 5 _ rfl
      have h6 : DataW.trod enc Tryz.prog W base spare held n 9 (([a, b, c, d, e, f, g].drop 6).take (Tryz.prog.cellsOf 9)) = some y6 := hf 6 _ rfl
      simp only [cellsOf_int_, cellsOf_str_, List.drop_zero, List.drop_succ_cons, List.take_succ_cons, List.take_zero] at h0 h1 h2 h3 h4 h5 h6
      obtain ⟨n0, e0, _, w0⟩ := DataW.trod_int Tryz.underlying3 h0
      obtain ⟨n1, e1, _, w1⟩ := DataW.trod_int Tryz.underlying3 h1
      obtain ⟨s2, e2, _, _⟩ := DataW.trod_string Tryz.underlying9 h2
      obtain ⟨n3, e3, _, w3⟩ := DataW.trod_int Tryz.underlying3 h3
      obtain ⟨s4, e4, _, _⟩ := DataW.trod_string Tryz.underlying9 h4
      obtain ⟨n5, e5, _, w5⟩ := DataW.trod_int Tryz.underlying3 h5
      obtain ⟨s6, e6, _, _⟩ := DataW.trod_string Tryz.underlying9 h6
      simp only [List.cons.injEq, and_true] at e0 e1 e2 e3 e4 e5 e6
      exact ⟨(n0, n1, s2.data.toList, n3, s4.data.toList, n5, s6.data.toList), by rw [e0, e1, e2, e3, e4, e5, e6, txt_of, txt_of, txt_of]; rfl, inI_wf w0, inI_wf w1, inI_wf w3, inI_wf w5⟩
end

section
variable {H : Type} {enc : TypeId × Value → H} {W : World} {base : Nat} {v : Value} {d : DataW H} {p : List MemPlace}

set_option maxRecDepth 100000 in
theorem open_ops (hval : Value.okWide Tryz.prog W .any base 52 v) (h : DataW.Trod enc Tryz.prog W 0 (fun _ => true) true 52 v d p) (hw : ∀ n ∈ d.weights Tryz.prog 52, n ≤ 140737488351232) :
    ∃ A n c s, v = .slice A n c ∧ Rd W 7 A n (cOps s) ∧ (∀ o ∈ s, OpIn o) ∧ n ≤ 1759218604391 ∧ n ≤ c := by
  obtain ⟨a0, len, cap, rfl⟩ := okWide_slice Tryz.underlying52 hval
  obtain ⟨fuel, hf⟩ := h
  obtain ⟨A, n, c, s, e, h1, h2, _, h3, h4⟩ := trod_slice_of (P := Tryz.prog) cOp OpIn Tryz.underlying52 cellsOf_op (bytes := 80) (by kernel_rfl) (by omega) (fun _ _ _ h => trod_op h) (fun o => rfl) hf hw
  have e' : (.slice a0 len cap : Value) = .slice A n c := by simpa [Value.cells] using e
  exact ⟨A, n, c, s, e', h1, h2, by omega, h4⟩

set_option maxRecDepth 100000 in
theorem open_op (hval : Value.okWide Tryz.prog W .any base 96 v) (h : DataW.Trod enc Tryz.prog W 0 (fun _ => true) true 96 v d p) : ∃ o : Tr.Op, v = vOp o ∧ OpIn o := by
  obtain ⟨cs, rfl, hsz⟩ := okWide_struct Tryz.underlying96 hval
  obtain ⟨fuel, hf⟩ := h
  obtain ⟨e, he, hin⟩ := trod_op hf
  refine ⟨e, ?_, hin⟩
  have : cs.toList = cOp e := by simpa [Value.cells] using he
  unfold vOp
  rw [show cs = (cOp e).toArray by rw [← this]]

set_option maxRecDepth 100000 in
theorem open_nums (hval : Value.okWide Tryz.prog W .any base 99 v) (h : DataW.Trod enc Tryz.prog W 0 (fun _ => true) true 99 v d p) (hw : ∀ n ∈ d.weights Tryz.prog 99, n ≤ 140737488351232) :
    ∃ A n c s, v = .slice A n c ∧ Rd W 1 A n (cNums s) ∧ (∀ o ∈ s, inI o) ∧ n ≤ 17592186043904 ∧ n ≤ c := by
  obtain ⟨a0, len, cap, rfl⟩ := okWide_slice Tryz.underlying99 hval
  obtain ⟨fuel, hf⟩ := h
  obtain ⟨A, n, c, s, e, h1, h2, _, h3, h4⟩ := trod_slice_of (P := Tryz.prog) (fun a : Int => [.int .i64 a]) inI Tryz.underlying99 cellsOf_int_ (bytes := 8) (by kernel_rfl) (by omega) (fun _ _ _ h => by
    obtain ⟨n0, e0, _, w0⟩ := DataW.trod_int Tryz.underlying3 h
    exact ⟨n0, e0, inI_wf w0⟩) (fun o => rfl) hf hw
  have e' : (.slice a0 len cap : Value) = .slice A n c := by simpa [Value.cells] using e
  exact ⟨A, n, c, s, e', h1, h2, by omega, h4⟩
end
end Go.Proofs.YtoacobcbloljkaaGreatDoor
