/-
  A script of vistalaw12 as an argument, opened.
-/
import Derived.Test.YtoacobcbloljkaaGreatDoorOpenE
import Derived.Test.YtoacobcbloljkaaGreatDoorOf
namespace Go.Proofs.YtoacobcbloljkaaGreatDoor
open Go.ChangeShapes Go.WideShapes Go.ChangeAt Go.RowKit Go.Deep

section
variable {H : Type} {enc : TypeId × Value → H} {W : World} {base : Nat} {spare : Nat → Bool} {held : Bool} {fuel : Nat} {cs : List Value} {x : DataW H × List MemPlace}
theorem cellsOf_op12 : Tryz.prog.cellsOf 103 = 10 := by kernel_rfl
set_option maxRecDepth 100000 in
theorem trod_op12 {B : Nat} (h : DataW.trod enc Tryz.prog W base spare held fuel 103 cs = some x) (hw : ∀ n ∈ x.1.weights Tryz.prog 103, n ≤ B) :
    ∃ (o : Op12) (A : Option Addr) (n c : Nat), cs = [.int .i64 o.1, .int .i64 o.2.1] ++ cEn o.2.2.1 ++ [.slice A n c] ∧ inI o.1 ∧ inI o.2.1 ∧ EnIn o.2.2.1 ∧ Rd W 2 A n (cKeys o.2.2.2) ∧ n * 24 ≤ B ∧ (∀ a, A = some a → a.block < W.heap.size ∨ n = 0) := by
  obtain ⟨xs, n, _, hx, hlen, hxl, hf⟩ := DataW.trod_struct Tryz.underlying103 h
  match cs, hlen.trans cellsOf_op12 with
  | [a, b, c, d, e, f, g, i, j, k], _ =>
    match xs, hxl with
    | [y0, y1, y2, y3], _ =>
      have h0 : DataW.trod enc Tryz.prog W base spare held n 3 (([a, b, c, d, e, f, g, i, j, k].drop 0).take (Tryz.prog.cellsOf 3)) = some y0 := hf 0 _ rfl
      have h1 : DataW.trod enc Tryz.prog W base spare held n 3 (([a, b, c, d, e, f, g, i, j, k].drop 1).take (Tryz.prog.cellsOf 3)) = some y1 := hf 1 _ rfl
      have h2 : DataW.trod enc Tryz.prog W base spare held n 36 (([a, b, c, d, e, f, g, i, j, k].drop 2).take (Tryz.prog.cellsOf 36)) = some y2 := hf 2 _ rfl
      have h3 : DataW.trod enc Tryz.prog W base spare held n 38 (([a, b, c, d, e, f, g, i, j, k].drop 9).take (Tryz.prog.cellsOf 38)) = some y3 := hf 3 _ rfl
      have hw3 : ∀ n ∈ y3.1.weights Tryz.prog 38, n ≤ B := by
        intro n hn
        refine hw n ?_
        have hx1 : x.1 = .agg [y0.1, y1.1, y2.1, y3.1] := by rw [hx]; rfl
        rw [hx1]
        unfold DataW.weights
        rw [Tryz.underlying103]
        exact DataW.weights_mem_each (P := Tryz.prog) (ts := [3, 3, 36, 38]) (ds := [y0.1, y1.1, y2.1, y3.1]) (j := 3) rfl rfl n hn
      simp only [cellsOf_int_, cellsOf_entry, cellsOf_keys_, List.drop_zero, List.drop_succ_cons, List.take_succ_cons, List.take_zero] at h0 h1 h2 h3
      obtain ⟨n0, e0, _, w0⟩ := DataW.trod_int Tryz.underlying3 h0
      obtain ⟨n1, e1, _, w1⟩ := DataW.trod_int Tryz.underlying3 h1
      obtain ⟨en, e2, w2⟩ := trod_entry h2
      obtain ⟨A, m, cc, ks, e3, hr, hm, ha⟩ := trod_keys h3 hw3
      simp only [List.cons.injEq, and_true] at e0 e1 e3
      refine ⟨(n0, n1, en, ks), A, m, cc, ?_, inI_wf w0, inI_wf w1, w2, hr, hm, ha⟩
      simp only
      rw [← e2, e0, e1, e3]
      rfl

/-- A slice of entries, read as a list. -/
theorem add_add_off (a : Addr) (i k : Nat) (h : 0 < k) : (a.add i).add k = ⟨(a.add i).block, (a.add i).off + k, none⟩ := by
  have e : ∀ b : Addr, b.add k = ⟨b.block, b.off + k, none⟩ := fun b => by
    unfold Addr.add
    rw [if_neg (by omega)]
  exact e _

/-- A script in memory. -/
theorem trod_script (h : DataW.trod enc Tryz.prog W base spare held fuel 22 cs = some x) (hw : ∀ n ∈ x.1.weights Tryz.prog 22, n ≤ 140737488351232) :
    ∃ A n c s, cs = [.slice A n c] ∧ ScriptAt W W.heap.size A n s ∧ n ≤ 1256584717421 ∧ n ≤ c := by
  rcases open_slice Tryz.underlying22 h with ⟨rfl, _⟩ | ⟨a, len, cap, m, n, D, Pl, rfl, _, hl, _, hm, rfl, hi⟩
  · exact ⟨none, 0, 0, [], rfl, ⟨rfl, fun j o q => by simp at q⟩, by omega, by omega⟩
  · have hlm : len ≤ m := by rw [hm]; split <;> omega
    obtain ⟨hw1, hw2⟩ := weights_slice Tryz.underlying22 hw
    have hk : ∀ i, i < len → ∃ o : Op12, OpAt W W.heap.size (a.add (i * 10)) o := by
      intro i hil
      obtain ⟨cs', hc, ht⟩ := hi i (by omega)
      rw [cellsOf_op12] at hc
      obtain ⟨o, A, kn, kc, rfl, b0, b1, _, hr, hkn, hA⟩ := trod_op12 (B := 140737488351232) ht (hw2 _ (List.mem_map.2 ⟨i, List.mem_range.2 hil, rfl⟩))
      obtain ⟨_, _, hat⟩ := World.cells?_some hc
      have hat' : ∀ k, 0 < k → k < 10 → W.cell? ⟨(a.add (i * 10)).block, (a.add (i * 10)).off + k, none⟩ = ([.int .i64 o.1, .int .i64 o.2.1] ++ cEn o.2.2.1 ++ [.slice A kn kc])[k]? := fun k h0 h1 => by
        rw [← add_add_off _ _ _ h0]
        exact hat k h1
      refine ⟨o, A, kn, kc, ?_, hat' 1 (by omega) (by omega), fun q u hu => ?_, hat' 9 (by omega) (by omega), hr, fun q e h0 => (hA q e).resolve_right (by omega), by omega, b0.1, b0.2⟩
      · have := hat 0 (by omega)
        rw [addr_zero] at this
        exact this
      · have hq : q < 7 := (List.getElem?_eq_some_iff.1 hu).1
        rw [hat' (2 + q) (by omega) (by omega), ← hu, List.append_assoc, List.getElem?_append_right (by simp), List.getElem?_append_left (by simp [cEn]; omega)]
        simp
    obtain ⟨f, hfn⟩ := Classical.axiomOfChoice (r := fun (i : Nat) (o : Op12) => i < len → OpAt W W.heap.size (a.add (i * 10)) o) (fun i => by
      by_cases h : i < len
      · obtain ⟨k, hk⟩ := hk i h
        exact ⟨k, fun _ => hk⟩
      · exact ⟨default, fun q => absurd q h⟩)
    refine ⟨some a, len, cap, (List.range len).map f, rfl, ⟨by simp, fun j o ho => ?_⟩, ?_, hl⟩
    · have hj : j < len := by
        have := (List.getElem?_eq_some_iff.1 ho).1
        simpa using this
      have hoj : o = f j := by simpa [hj] using ho.symm
      subst hoj
      have hop := hfn j hj
      refine ⟨a, rfl, ?_, hop⟩
      obtain ⟨_, _, _, h0, _⟩ := hop
      have := World.block_lt_of_cell? _ _ h0
      rwa [add_block] at this
    · have hb : Tryz.prog.bytesOf 103 = 112 := by kernel_rfl
      rw [hb] at hw1
      simp only [List.length_map, List.length_range] at hw1
      omega
end

section
variable {H : Type} {enc : TypeId × Value → H} {W : World} {base : Nat} {v : Value} {d : DataW H} {p : List MemPlace}
set_option maxRecDepth 100000 in
theorem open_script (hval : Value.okWide Tryz.prog W .any base 22 v) (h : DataW.Trod enc Tryz.prog W 0 (fun _ => true) true 22 v d p) (hw : ∀ n ∈ d.weights Tryz.prog 22, n ≤ 140737488351232) :
    ∃ A n c s, v = .slice A n c ∧ ScriptAt W W.heap.size A n s ∧ n ≤ 1256584717421 ∧ n ≤ c := by
  obtain ⟨a0, len, cap, rfl⟩ := okWide_slice Tryz.underlying22 hval
  obtain ⟨fuel, hf⟩ := h
  obtain ⟨A, n, c, s, e, h1, h2, h3⟩ := trod_script hf hw
  have e' : (.slice a0 len cap : Value) = .slice A n c := by simpa [Value.cells] using e
  exact ⟨A, n, c, s, e', h1, h2, h3⟩

end
end Go.Proofs.YtoacobcbloljkaaGreatDoor
