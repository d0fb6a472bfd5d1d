/-
  Arguments that are structs of structs, opened: keys, nodes, entries, operations of a script, and slices of these.
-/
import Derived.Test.YtmaadimodjnnlaaDoorRowBase
import Derived.Test.YtmaadimodjnnlaaDoorOf
import Derived.Deep.Slices
namespace Go.Proofs.YtmaadimodjnnlaaDoor
open Go.ChangeShapes Go.WideShapes Go.ChangeAt Go.RowKit Go.Deep

def inI (a : Int) : Prop := -9223372036854775808 ≤ a ∧ a ≤ 9223372036854775807

theorem inI_wf {n : Int} (h : (Lit.int .i64 n).wf = true) : inI n := bounds_i64 h

section
variable {H : Type} {enc : TypeId × Value → H} {W : World} {base : Nat} {spare : Nat → Bool} {held : Bool} {fuel : Nat} {cs : List Value} {x : DataW H × List MemPlace}

theorem cellsOf_key : Tryd.prog.cellsOf 28 = 2 := by kernel_rfl
theorem cellsOf_node : Tryd.prog.cellsOf 30 = 4 := by kernel_rfl
theorem cellsOf_entry : Tryd.prog.cellsOf 32 = 7 := by kernel_rfl
theorem cellsOf_op12 : Tryd.prog.cellsOf 61 = 10 := by kernel_rfl
theorem cellsOf_int_ : Tryd.prog.cellsOf 3 = 1 := by kernel_rfl
theorem cellsOf_str_ : Tryd.prog.cellsOf 9 = 1 := by kernel_rfl
theorem cellsOf_bool_ : Tryd.prog.cellsOf 4 = 1 := by kernel_rfl
theorem cellsOf_keys_ : Tryd.prog.cellsOf 33 = 1 := by kernel_rfl

theorem txt_of (s : ByteArray) : (.string s : Value) = txt s.data.toList := by unfold txt; simp

set_option maxRecDepth 100000 in
theorem trod_key (h : DataW.trod enc Tryd.prog W base spare held fuel 28 cs = some x) : ∃ k : Key, cs = [.int .i64 k.1, txt k.2] ∧ inI k.1 := by
  obtain ⟨xs, n, _, _, hlen, hxl, hf⟩ := DataW.trod_struct Tryd.underlying28 h
  match cs, hlen.trans cellsOf_key with
  | [a, b], _ =>
    match xs, hxl with
    | [y0, y1], _ =>
      have h0 : DataW.trod enc Tryd.prog W base spare held n 3 (([a, b].drop 0).take (Tryd.prog.cellsOf 3)) = some y0 := hf 0 _ rfl
      have h1 : DataW.trod enc Tryd.prog W base spare held n 9 (([a, b].drop 1).take (Tryd.prog.cellsOf 9)) = some y1 := hf 1 _ rfl
      simp only [cellsOf_int_, cellsOf_str_, List.drop_zero, List.drop_succ_cons, List.take_succ_cons, List.take_zero] at h0 h1
      obtain ⟨n0, e0, _, w0⟩ := DataW.trod_int Tryd.underlying3 h0
      obtain ⟨s1, e1, _, _⟩ := DataW.trod_string Tryd.underlying9 h1
      simp only [List.cons.injEq, and_true] at e0 e1
      exact ⟨(n0, s1.data.toList), by rw [e0, e1, txt_of], inI_wf w0⟩

set_option maxRecDepth 100000 in
theorem trod_node (h : DataW.trod enc Tryd.prog W base spare held fuel 30 cs = some x) : ∃ k : Nd, cs = [.int .i64 k.1, .int .i64 k.2.1, .int .i64 k.2.2.1, txt k.2.2.2] ∧ inI k.1 ∧ inI k.2.1 ∧ inI k.2.2.1 := by
  obtain ⟨xs, n, _, _, hlen, hxl, hf⟩ := DataW.trod_struct Tryd.underlying30 h
  match cs, hlen.trans cellsOf_node with
  | [a, b, c, d], _ =>
    match xs, hxl with
    | [y0, y1, y2, y3], _ =>
      have h0 : DataW.trod enc Tryd.prog W base spare held n 3 (([a, b, c, d].drop 0).take (Tryd.prog.cellsOf 3)) = some y0 := hf 0 _ rfl
      have h1 : DataW.trod enc Tryd.prog W base spare held n 3 (([a, b, c, d].drop 1).take (Tryd.prog.cellsOf 3)) = some y1 := hf 1 _ rfl
      have h2 : DataW.trod enc Tryd.prog W base spare held n 3 (([a, b, c, d].drop 2).take (Tryd.prog.cellsOf 3)) = some y2 := hf 2 _ rfl
      have h3 : DataW.trod enc Tryd.prog W base spare held n 9 (([a, b, c, d].drop 3).take (Tryd.prog.cellsOf 9)) = some y3 := hf 3 _ rfl
      simp only [cellsOf_int_, cellsOf_str_, List.drop_zero, List.drop_succ_cons, List.take_succ_cons, List.take_zero] at h0 h1 h2 h3
      obtain ⟨n0, e0, _, w0⟩ := DataW.trod_int Tryd.underlying3 h0
      obtain ⟨n1, e1, _, w1⟩ := DataW.trod_int Tryd.underlying3 h1
      obtain ⟨n2, e2, _, w2⟩ := DataW.trod_int Tryd.underlying3 h2
      obtain ⟨s3, e3, _, _⟩ := DataW.trod_string Tryd.underlying9 h3
      simp only [List.cons.injEq, and_true] at e0 e1 e2 e3
      exact ⟨(n0, n1, n2, s3.data.toList), by rw [e0, e1, e2, e3, txt_of], inI_wf w0, inI_wf w1, inI_wf w2⟩

def EnIn (e : En) : Prop := inI e.1.1 ∧ inI e.2.2.1 ∧ inI e.2.2.2.1 ∧ inI e.2.2.2.2.1

set_option maxRecDepth 100000 in
theorem trod_entry (h : DataW.trod enc Tryd.prog W base spare held fuel 32 cs = some x) : ∃ e : En, cs = cEn e ∧ EnIn e := by
  obtain ⟨xs, n, _, _, hlen, hxl, hf⟩ := DataW.trod_struct Tryd.underlying32 h
  match cs, hlen.trans cellsOf_entry with
  | [a, b, c, d, e, f, g], _ =>
    match xs, hxl with
    | [y0, y1, y2], _ =>
      have h0 : DataW.trod enc Tryd.prog W base spare held n 28 (([a, b, c, d, e, f, g].drop 0).take (Tryd.prog.cellsOf 28)) = some y0 := hf 0 _ rfl
      have h1 : DataW.trod enc Tryd.prog W base spare held n 4 (([a, b, c, d, e, f, g].drop 2).take (Tryd.prog.cellsOf 4)) = some y1 := hf 1 _ rfl
      have h2 : DataW.trod enc Tryd.prog W base spare held n 30 (([a, b, c, d, e, f, g].drop 3).take (Tryd.prog.cellsOf 30)) = some y2 := hf 2 _ rfl
      simp only [cellsOf_key, cellsOf_node, cellsOf_bool_, List.drop_zero, List.drop_succ_cons, List.take_succ_cons, List.take_zero] at h0 h1 h2
      obtain ⟨k, e0, w0⟩ := trod_key h0
      obtain ⟨bb, e1, _⟩ := DataW.trod_bool Tryd.underlying4 h1
      obtain ⟨nd, e2, w1, w2, w3⟩ := trod_node h2
      simp only [List.cons.injEq, and_true] at e0 e1 e2
      obtain ⟨rfl, rfl⟩ := e0
      subst e1
      obtain ⟨rfl, rfl, rfl, rfl⟩ := e2
      exact ⟨(k, bb, nd), rfl, w0, w1, w2, w3⟩

theorem weights_mem_all {P : Program} {e : TypeId} {d : DataW H} : ∀ {l : List (DataW H)}, d ∈ l → ∀ n ∈ d.weights P e, n ∈ DataW.weightsAll P e l
  | [], h, _, _ => by cases h
  | a :: r, h, n, hn => by
    unfold DataW.weightsAll
    rcases List.mem_cons.1 h with rfl | h
    · exact List.mem_append_left _ hn
    · exact List.mem_append_right _ (weights_mem_all h n hn)

theorem weights_slice {P : Program} {t e : TypeId} {elems sp : List (DataW H)} (ht : P.underlying t = some (.slice e)) {B : Nat} (h : ∀ n ∈ (DataW.slice elems sp).weights P t, n ≤ B) :
    (elems.length + sp.length) * P.bytesOf e ≤ B ∧ ∀ d ∈ elems, ∀ n ∈ d.weights P e, n ≤ B := by
  unfold DataW.weights at h
  rw [ht] at h
  simp only [List.mem_cons, List.mem_append] at h
  exact ⟨h _ (.inl rfl), fun d hd n hn => h n (.inr (.inl (weights_mem_all hd n hn)))⟩

/-- A slice of keys, read as a list. -/
theorem trod_keys {B : Nat} (h : DataW.trod enc Tryd.prog W base spare held fuel 33 cs = some x) (hw : ∀ n ∈ x.1.weights Tryd.prog 33, n ≤ B) :
    ∃ A n c ks, cs = [.slice A n c] ∧ Rd W 2 A n (cKeys ks) ∧ n * 24 ≤ B ∧ (∀ a, A = some a → a.block < W.heap.size ∨ n = 0) := by
  rcases open_slice Tryd.underlying33 h with ⟨rfl, _⟩ | ⟨a, len, cap, m, n, D, Pl, rfl, _, hl, _, hm, rfl, hi⟩
  · exact ⟨none, 0, 0, [], rfl, ⟨rfl, fun h => absurd h (by omega)⟩, by omega, fun a q => by cases q⟩
  · have hlm : len ≤ m := by rw [hm]; split <;> omega
    have hk : ∀ i, i < len → ∃ k : Key, W.cell? (a.add (i * 2)) = some (.int .i64 k.1) ∧ W.cell? (a.add (i * 2 + 1)) = some (txt k.2) := by
      intro i hil
      obtain ⟨cs', hc, ht⟩ := hi i (by omega)
      rw [cellsOf_key] at hc
      obtain ⟨k, rfl, _⟩ := trod_key ht
      obtain ⟨_, _, hat⟩ := World.cells?_some hc
      refine ⟨k, ?_, ?_⟩
      · have := hat 0 (by omega)
        rwa [addr_zero] at this
      · have := hat 1 (by omega)
        rwa [add_assoc_] at this
    obtain ⟨f, hfn⟩ := Classical.axiomOfChoice (r := fun (i : Nat) (k : Key) => i < len → W.cell? (a.add (i * 2)) = some (.int .i64 k.1) ∧ W.cell? (a.add (i * 2 + 1)) = some (txt k.2)) (fun i => by
      by_cases h : i < len
      · obtain ⟨k, hk⟩ := hk i h
        exact ⟨k, fun _ => hk⟩
      · exact ⟨(0, []), fun q => absurd q h⟩)
    refine ⟨some a, len, cap, (List.range len).map f, rfl, ?_, ?_, ?_⟩
    · refine ⟨by rw [cKeys_length]; simp, fun h0 => ⟨a, rfl, ?_, fun j u hu => ?_⟩⟩
      · have := World.block_lt_of_cell? _ _ (hfn 0 h0).1
        rwa [add_block] at this
      · have hj : j < len * 2 := by
          have := (List.getElem?_eq_some_iff.1 hu).1
          rw [cKeys_length] at this
          simpa using this
        have hj2 : j / 2 < len := by omega
        have hq : ((List.range len).map f)[j / 2]? = some (f (j / 2)) := by simp [hj2]
        obtain ⟨h1, h2⟩ := hfn (j / 2) hj2
        by_cases hpar : j % 2 = 0
        · have hj' : j = j / 2 * 2 := by omega
          rw [hj', ← Nat.add_zero (j / 2 * 2), cKeys_get _ _ _ hq 0 (by omega)] at hu
          injection hu with hu
          rw [hj', ← hu]
          exact h1
        · have hj' : j = j / 2 * 2 + 1 := by omega
          rw [hj', cKeys_get _ _ _ hq 1 (by omega)] at hu
          injection hu with hu
          rw [hj', ← hu]
          exact h2
    · have := (weights_slice Tryd.underlying33 hw).1
      have hb : Tryd.prog.bytesOf 28 = 24 := by kernel_rfl
      rw [hb] at this
      simp only [List.length_map, List.length_range] at this
      omega
    · intro a' e
      injection e with e
      subst e
      by_cases h0 : 0 < len
      · left
        have := World.block_lt_of_cell? _ _ (hfn 0 h0).1
        rwa [add_block] at this
      · right
        omega

set_option maxRecDepth 100000 in
theorem trod_op12 {B : Nat} (h : DataW.trod enc Tryd.prog W base spare held fuel 61 cs = some x) (hw : ∀ n ∈ x.1.weights Tryd.prog 61, n ≤ B) :
    ∃ (o : Op12) (A : Option Addr) (n c : Nat), cs = [.int .i64 o.1, .int .i64 o.2.1] ++ cEn o.2.2.1 ++ [.slice A n c] ∧ inI o.1 ∧ inI o.2.1 ∧ EnIn o.2.2.1 ∧ Rd W 2 A n (cKeys o.2.2.2) ∧ n * 24 ≤ B ∧ (∀ a, A = some a → a.block < W.heap.size ∨ n = 0) := by
  obtain ⟨xs, n, _, hx, hlen, hxl, hf⟩ := DataW.trod_struct Tryd.underlying61 h
  match cs, hlen.trans cellsOf_op12 with
  | [a, b, c, d, e, f, g, i, j, k], _ =>
    match xs, hxl with
    | [y0, y1, y2, y3], _ =>
      have h0 : DataW.trod enc Tryd.prog W base spare held n 3 (([a, b, c, d, e, f, g, i, j, k].drop 0).take (Tryd.prog.cellsOf 3)) = some y0 := hf 0 _ rfl
      have h1 : DataW.trod enc Tryd.prog W base spare held n 3 (([a, b, c, d, e, f, g, i, j, k].drop 1).take (Tryd.prog.cellsOf 3)) = some y1 := hf 1 _ rfl
      have h2 : DataW.trod enc Tryd.prog W base spare held n 32 (([a, b, c, d, e, f, g, i, j, k].drop 2).take (Tryd.prog.cellsOf 32)) = some y2 := hf 2 _ rfl
      have h3 : DataW.trod enc Tryd.prog W base spare held n 33 (([a, b, c, d, e, f, g, i, j, k].drop 9).take (Tryd.prog.cellsOf 33)) = some y3 := hf 3 _ rfl
      have hw3 : ∀ n ∈ y3.1.weights Tryd.prog 33, n ≤ B := by
        intro n hn
        refine hw n ?_
        have hx1 : x.1 = .agg [y0.1, y1.1, y2.1, y3.1] := by rw [hx]; rfl
        rw [hx1]
        unfold DataW.weights
        rw [Tryd.underlying61]
        exact DataW.weights_mem_each (P := Tryd.prog) (ts := [3, 3, 32, 33]) (ds := [y0.1, y1.1, y2.1, y3.1]) (j := 3) rfl rfl n hn
      simp only [cellsOf_int_, cellsOf_entry, cellsOf_keys_, List.drop_zero, List.drop_succ_cons, List.take_succ_cons, List.take_zero] at h0 h1 h2 h3
      obtain ⟨n0, e0, _, w0⟩ := DataW.trod_int Tryd.underlying3 h0
      obtain ⟨n1, e1, _, w1⟩ := DataW.trod_int Tryd.underlying3 h1
      obtain ⟨en, e2, w2⟩ := trod_entry h2
      obtain ⟨A, m, cc, ks, e3, hr, hm, ha⟩ := trod_keys h3 hw3
      simp only [List.cons.injEq, and_true] at e0 e1 e3
      refine ⟨(n0, n1, en, ks), A, m, cc, ?_, inI_wf w0, inI_wf w1, w2, hr, hm, ha⟩
      simp only
      rw [← e2, e0, e1, e3]
      rfl

theorem add_add_off (a : Addr) (i k : Nat) (h : 0 < k) : (a.add i).add k = ⟨(a.add i).block, (a.add i).off + k, none⟩ := by
  have e : ∀ b : Addr, b.add k = ⟨b.block, b.off + k, none⟩ := fun b => by
    unfold Addr.add
    rw [if_neg (by omega)]
  exact e _

/-- A script in memory. -/
theorem trod_script (h : DataW.trod enc Tryd.prog W base spare held fuel 39 cs = some x) (hw : ∀ n ∈ x.1.weights Tryd.prog 39, n ≤ 140737488351232) :
    ∃ A n c s, cs = [.slice A n c] ∧ ScriptAt W W.heap.size A n s ∧ n ≤ 1256584717421 ∧ n ≤ c := by
  rcases open_slice Tryd.underlying39 h with ⟨rfl, _⟩ | ⟨a, len, cap, m, n, D, Pl, rfl, _, hl, _, hm, rfl, hi⟩
  · exact ⟨none, 0, 0, [], rfl, ⟨rfl, fun j o q => by simp at q⟩, by omega, by omega⟩
  · have hlm : len ≤ m := by rw [hm]; split <;> omega
    obtain ⟨hw1, hw2⟩ := weights_slice Tryd.underlying39 hw
    have hk : ∀ i, i < len → ∃ o : Op12, OpAt W W.heap.size (a.add (i * 10)) o := by
      intro i hil
      obtain ⟨cs', hc, ht⟩ := hi i (by omega)
      rw [cellsOf_op12] at hc
      obtain ⟨o, A, kn, kc, rfl, b0, b1, _, hr, hkn, hA⟩ := trod_op12 (B := 140737488351232) ht (hw2 _ (List.mem_map.2 ⟨i, List.mem_range.2 hil, rfl⟩))
      obtain ⟨_, _, hat⟩ := World.cells?_some hc
      have hat' : ∀ k, 0 < k → k < 10 → W.cell? ⟨(a.add (i * 10)).block, (a.add (i * 10)).off + k, none⟩ = ([.int .i64 o.1, .int .i64 o.2.1] ++ cEn o.2.2.1 ++ [.slice A kn kc])[k]? := fun k h0 h1 => by
        rw [← add_add_off _ _ _ h0]
        exact hat k h1
      refine ⟨o, A, kn, kc, ?_, hat' 1 (by omega) (by omega), fun q u hu => ?_, hat' 9 (by omega) (by omega), hr, fun q e h0 => (hA q e).resolve_right (by omega), by omega, b0.1, b0.2⟩
      · have := hat 0 (by omega)
        rw [addr_zero] at this
        exact this
      · have hq : q < 7 := (List.getElem?_eq_some_iff.1 hu).1
        rw [hat' (2 + q) (by omega) (by omega), ← hu, List.append_assoc, List.getElem?_append_right (by simp), List.getElem?_append_left (by simp [cEn]; omega)]
        simp
    obtain ⟨f, hfn⟩ := Classical.axiomOfChoice (r := fun (i : Nat) (o : Op12) => i < len → OpAt W W.heap.size (a.add (i * 10)) o) (fun i => by
      by_cases h : i < len
      · obtain ⟨k, hk⟩ := hk i h
        exact ⟨k, fun _ => hk⟩
      · exact ⟨default, fun q => absurd q h⟩)
    refine ⟨some a, len, cap, (List.range len).map f, rfl, ⟨by simp, fun j o ho => ?_⟩, ?_, hl⟩
    · have hj : j < len := by
        have := (List.getElem?_eq_some_iff.1 ho).1
        simpa using this
      have hoj : o = f j := by simpa [hj] using ho.symm
      subst hoj
      have hop := hfn j hj
      refine ⟨a, rfl, ?_, hop⟩
      obtain ⟨_, _, _, h0, _⟩ := hop
      have := World.block_lt_of_cell? _ _ h0
      rwa [add_block] at this
    · have hb : Tryd.prog.bytesOf 61 = 112 := by kernel_rfl
      rw [hb] at hw1
      simp only [List.length_map, List.length_range] at hw1
      omega
end

theorem weights_at {H : Type} {ts : List TypeId} {ds : List (DataW H)} (h : (DataW.weightsEach Tryd.prog ts ds).all (· ≤ reachBytes) = true) {j : Nat} {t : TypeId} {d : DataW H} (ht : ts[j]? = some t) (hd : ds[j]? = some d) : ∀ n ∈ d.weights Tryd.prog t, n ≤ 140737488351232 := by
  intro n hn
  have := List.all_eq_true.1 h n (DataW.weights_mem_each ht hd n hn)
  have hr : reachBytes ≤ 140737488351232 := by decide
  simp only [decide_eq_true_eq] at this
  omega

section
variable {H : Type} {enc : TypeId × Value → H} {W : World} {base : Nat} {v : Value} {d : DataW H} {p : List MemPlace}

set_option maxRecDepth 100000 in
theorem open_script (hval : Value.okWide Tryd.prog W .any base 39 v) (h : DataW.Trod enc Tryd.prog W 0 (fun _ => true) true 39 v d p) (hw : ∀ n ∈ d.weights Tryd.prog 39, n ≤ 140737488351232) :
    ∃ A n c s, v = .slice A n c ∧ ScriptAt W W.heap.size A n s ∧ n ≤ 1256584717421 ∧ n ≤ c := by
  obtain ⟨a0, len, cap, rfl⟩ := okWide_slice Tryd.underlying39 hval
  obtain ⟨fuel, hf⟩ := h
  obtain ⟨A, n, c, s, e, h1, h2, h3⟩ := trod_script hf hw
  have e' : (.slice a0 len cap : Value) = .slice A n c := by simpa [Value.cells] using e
  exact ⟨A, n, c, s, e', h1, h2, h3⟩

set_option maxRecDepth 100000 in
theorem open_entry (hval : Value.okWide Tryd.prog W .any base 32 v) (h : DataW.Trod enc Tryd.prog W 0 (fun _ => true) true 32 v d p) : ∃ e : En, v = vEn e ∧ EnIn e := by
  obtain ⟨cs, rfl, hsz⟩ := okWide_struct Tryd.underlying32 hval
  obtain ⟨fuel, hf⟩ := h
  obtain ⟨e, he, hin⟩ := trod_entry hf
  refine ⟨e, ?_, hin⟩
  have : cs.toList = cEn e := by simpa [Value.cells] using he
  unfold vEn
  rw [show cs = (cEn e).toArray by rw [← this]]
  rfl
end
end Go.Proofs.YtmaadimodjnnlaaDoor
