/-
  Arguments that are structs of structs, opened: keys, nodes, entries, operations of a script, and slices of these.
-/
import Derived.Test.YtoacobcbloljkaaGreatDoorRowBase
import Derived.Test.YtoacobcbloljkaaGreatDoorLow
import Derived.Deep.Slices
namespace Go.Proofs.YtoacobcbloljkaaGreatDoor
open Go.ChangeShapes Go.WideShapes Go.ChangeAt Go.RowKit Go.Deep

def inI (a : Int) : Prop := -9223372036854775808 ≤ a ∧ a ≤ 9223372036854775807

theorem inI_wf {n : Int} (h : (Lit.int .i64 n).wf = true) : inI n := bounds_i64 h

section
variable {H : Type} {enc : TypeId × Value → H} {W : World} {base : Nat} {spare : Nat → Bool} {held : Bool} {fuel : Nat} {cs : List Value} {x : DataW H × List MemPlace}

theorem cellsOf_key : Tryz.prog.cellsOf 32 = 2 := by kernel_rfl
theorem cellsOf_node : Tryz.prog.cellsOf 34 = 4 := by kernel_rfl
theorem cellsOf_entry : Tryz.prog.cellsOf 36 = 7 := by kernel_rfl
theorem cellsOf_int_ : Tryz.prog.cellsOf 3 = 1 := by kernel_rfl
theorem cellsOf_str_ : Tryz.prog.cellsOf 9 = 1 := by kernel_rfl
theorem cellsOf_bool_ : Tryz.prog.cellsOf 4 = 1 := by kernel_rfl
theorem cellsOf_keys_ : Tryz.prog.cellsOf 38 = 1 := by kernel_rfl

theorem txt_of (s : ByteArray) : (.string s : Value) = txt s.data.toList := by unfold txt; simp

set_option maxRecDepth 100000 in
theorem trod_key (h : DataW.trod enc Tryz.prog W base spare held fuel 32 cs = some x) : ∃ k : Key, cs = [.int .i64 k.1, txt k.2] ∧ inI k.1 := by
  obtain ⟨xs, n, _, _, hlen, hxl, hf⟩ := DataW.trod_struct Tryz.underlying32 h
  match cs, hlen.trans cellsOf_key with
  | [a, b], _ =>
    match xs, hxl with
    | [y0, y1], _ =>
      have h0 : DataW.trod enc Tryz.prog W base spare held n 3 (([a, b].drop 0).take (Tryz.prog.cellsOf 3)) = some y0 := hf 0 _ rfl
      have h1 : DataW.trod enc Tryz.prog W base spare held n 9 (([a, b].drop 1).take (Tryz.prog.cellsOf 9)) = some y1 := hf 1 _ rfl
      simp only [cellsOf_int_, cellsOf_str_, List.drop_zero, List.drop_succ_cons, List.take_succ_cons, List.take_zero] at h0 h1
      obtain ⟨n0, e0, _, w0⟩ := DataW.trod_int Tryz.underlying3 h0
      obtain ⟨s1, e1, _, _⟩ := DataW.trod_string Tryz.underlying9 h1
      simp only [List.cons.injEq, and_true] at e0 e1
      exact ⟨(n0, s1.data.toList), by rw [e0, e1, txt_of], inI_wf w0⟩

set_option maxRecDepth 100000 in
theorem trod_node (h : DataW.trod enc Tryz.prog W base spare held fuel 34 cs = some x) : ∃ k : Nd, cs = [.int .i64 k.1, .int .i64 k.2.1, .int .i64 k.2.2.1, txt k.2.2.2] ∧ inI k.1 ∧ inI k.2.1 ∧ inI k.2.2.1 := by
  obtain ⟨xs, n, _, _, hlen, hxl, hf⟩ := DataW.trod_struct Tryz.underlying34 h
  match cs, hlen.trans cellsOf_node with
  | [a, b, c, d], _ =>
    match xs, hxl with
    | [y0, y1, y2, y3], _ =>
      have h0 : DataW.trod enc Tryz.prog W base spare held n 3 (([a, b, c, d].drop 0).take (Tryz.prog.cellsOf 3)) = some y0 := hf 0 _ rfl
      have h1 : DataW.trod enc Tryz.prog W base spare held n 3 (([a, b, c, d].drop 1).take (Tryz.prog.cellsOf 3)) = some y1 := hf 1 _ rfl
      have h2 : DataW.trod enc Tryz.prog W base spare held n 3 (([a, b, c, d].drop 2).take (Tryz.prog.cellsOf 3)) = some y2 := hf 2 _ rfl
      have h3 : DataW.trod enc Tryz.prog W base spare held n 9 (([a, b, c, d].drop 3).take (Tryz.prog.cellsOf 9)) = some y3 := hf 3 _ rfl
      simp only [cellsOf_int_, cellsOf_str_, List.drop_zero, List.drop_succ_cons, List.take_succ_cons, List.take_zero] at h0 h1 h2 h3
      obtain ⟨n0, e0, _, w0⟩ := DataW.trod_int Tryz.underlying3 h0
      obtain ⟨n1, e1, _, w1⟩ := DataW.trod_int Tryz.underlying3 h1
      obtain ⟨n2, e2, _, w2⟩ := DataW.trod_int Tryz.underlying3 h2
      obtain ⟨s3, e3, _, _⟩ := DataW.trod_string Tryz.underlying9 h3
      simp only [List.cons.injEq, and_true] at e0 e1 e2 e3
      exact ⟨(n0, n1, n2, s3.data.toList), by rw [e0, e1, e2, e3, txt_of], inI_wf w0, inI_wf w1, inI_wf w2⟩

def EnIn (e : En) : Prop := inI e.1.1 ∧ inI e.2.2.1 ∧ inI e.2.2.2.1 ∧ inI e.2.2.2.2.1

set_option maxRecDepth 100000 in
theorem trod_entry (h : DataW.trod enc Tryz.prog W base spare held fuel 36 cs = some x) : ∃ e : En, cs = cEn e ∧ EnIn e := by
  obtain ⟨xs, n, _, _, hlen, hxl, hf⟩ := DataW.trod_struct Tryz.underlying36 h
  match cs, hlen.trans cellsOf_entry with
  | [a, b, c, d, e, f, g], _ =>
    match xs, hxl with
    | [y0, y1, y2], _ =>
      have h0 : DataW.trod enc Tryz.prog W base spare held n 32 (([a, b, c, d, e, f, g].drop 0).take (Tryz.prog.cellsOf 32)) = some y0 := hf 0 _ rfl
      have h1 : DataW.trod enc Tryz.prog W base spare held n 4 (([a, b, c, d, e, f, g].drop 2).take (Tryz.prog.cellsOf 4)) = some y1 := hf 1 _ rfl
      have h2 : DataW.trod enc Tryz.prog W base spare held n 34 (([a, b, c, d, e, f, g].drop 3).take (Tryz.prog.cellsOf 34)) = some y2 := hf 2 _ rfl
      simp only [cellsOf_key, cellsOf_node, cellsOf_bool_, List.drop_zero, List.drop_succ_cons, List.take_succ_cons, List.take_zero] at h0 h1 h2
      obtain ⟨k, e0, w0⟩ := trod_key h0
      obtain ⟨bb, e1, _⟩ := DataW.trod_bool Tryz.underlying4 h1
      obtain ⟨nd, e2, w1, w2, w3⟩ := trod_node h2
      simp only [List.cons.injEq, and_true] at e0 e1 e2
      obtain ⟨rfl, rfl⟩ := e0
      subst e1
      obtain ⟨rfl, rfl, rfl, rfl⟩ := e2
      exact ⟨(k, bb, nd), rfl, w0, w1, w2, w3⟩

theorem weights_mem_all {P : Program} {e : TypeId} {d : DataW H} : ∀ {l : List (DataW H)}, d ∈ l → ∀ n ∈ d.weights P e, n ∈ DataW.weightsAll P e l
  | [], h, _, _ => by cases h
  | a :: r, h, n, hn => by
    unfold DataW.weightsAll
    rcases List.mem_cons.1 h with rfl | h
    · exact List.mem_append_left _ hn
    · exact List.mem_append_right _ (weights_mem_all h n hn)

theorem weights_slice {P : Program} {t e : TypeId} {elems sp : List (DataW H)} (ht : P.underlying t = some (.slice e)) {B : Nat} (h : ∀ n ∈ (DataW.slice elems sp).weights P t, n ≤ B) :
    (elems.length + sp.length) * P.bytesOf e ≤ B ∧ ∀ d ∈ elems, ∀ n ∈ d.weights P e, n ≤ B := by
  unfold DataW.weights at h
  rw [ht] at h
  simp only [List.mem_cons, List.mem_append] at h
  exact ⟨h _ (.inl rfl), fun d hd n hn => h n (.inr (.inl (weights_mem_all hd n hn)))⟩

/-- A slice of keys, read as a list. -/
theorem trod_keys {B : Nat} (h : DataW.trod enc Tryz.prog W base spare held fuel 38 cs = some x) (hw : ∀ n ∈ x.1.weights Tryz.prog 38, n ≤ B) :
    ∃ A n c ks, cs = [.slice A n c] ∧ Rd W 2 A n (cKeys ks) ∧ n * 24 ≤ B ∧ (∀ a, A = some a → a.block < W.heap.size ∨ n = 0) := by
  rcases open_slice Tryz.underlying38 h with ⟨rfl, _⟩ | ⟨a, len, cap, m, n, D, Pl, rfl, _, hl, _, hm, rfl, hi⟩
  · exact ⟨none, 0, 0, [], rfl, ⟨rfl, fun h => absurd h (by omega)⟩, by omega, fun a q => by cases q⟩
  · have hlm : len ≤ m := by rw [hm]; split <;> omega
    have hk : ∀ i, i < len → ∃ k : Key, W.cell? (a.add (i * 2)) = some (.int .i64 k.1) ∧ W.cell? (a.add (i * 2 + 1)) = some (txt k.2) := by
      intro i hil
      obtain ⟨cs', hc, ht⟩ := hi i (by omega)
      rw [cellsOf_key] at hc
      obtain ⟨k, rfl, _⟩ := trod_key ht
      obtain ⟨_, _, hat⟩ := World.cells?_some hc
      refine ⟨k, ?_, ?_⟩
      · have := hat 0 (by omega)
        rwa [addr_zero] at this
      · have := hat 1 (by omega)
        rwa [add_assoc_] at this
    obtain ⟨f, hfn⟩ := Classical.axiomOfChoice (r := fun (i : Nat) (k : Key) => i < len → W.cell? (a.add (i * 2)) = some (.int .i64 k.1) ∧ W.cell? (a.add (i * 2 + 1)) = some (txt k.2)) (fun i => by
      by_cases h : i < len
      · obtain ⟨k, hk⟩ := hk i h
        exact ⟨k, fun _ => hk⟩
      · exact ⟨(0, []), fun q => absurd q h⟩)
    refine ⟨some a, len, cap, (List.range len).map f, rfl, ?_, ?_, ?_⟩
    · refine ⟨by rw [cKeys_length]; simp, fun h0 => ⟨a, rfl, ?_, fun j u hu => ?_⟩⟩
      · have := World.block_lt_of_cell? _ _ (hfn 0 h0).1
        rwa [add_block] at this
      · have hj : j < len * 2 := by
          have := (List.getElem?_eq_some_iff.1 hu).1
          rw [cKeys_length] at this
          simpa using this
        have hj2 : j / 2 < len := by omega
        have hq : ((List.range len).map f)[j / 2]? = some (f (j / 2)) := by simp [hj2]
        obtain ⟨h1, h2⟩ := hfn (j / 2) hj2
        by_cases hpar : j % 2 = 0
        · have hj' : j = j / 2 * 2 := by omega
          rw [hj', ← Nat.add_zero (j / 2 * 2), cKeys_get _ _ _ hq 0 (by omega)] at hu
          injection hu with hu
          rw [hj', ← hu]
          exact h1
        · have hj' : j = j / 2 * 2 + 1 := by omega
          rw [hj', cKeys_get _ _ _ hq 1 (by omega)] at hu
          injection hu with hu
          rw [hj', ← hu]
          exact h2
    · have := (weights_slice Tryz.underlying38 hw).1
      have hb : Tryz.prog.bytesOf 32 = 24 := by kernel_rfl
      rw [hb] at this
      simp only [List.length_map, List.length_range] at this
      omega
    · intro a' e
      injection e with e
      subst e
      by_cases h0 : 0 < len
      · left
        have := World.block_lt_of_cell? _ _ (hfn 0 h0).1
        rwa [add_block] at this
      · right
        omega

theorem trod_entries {B : Nat} (h : DataW.trod enc Tryz.prog W base spare held fuel 23 cs = some x) (hw : ∀ n ∈ x.1.weights Tryz.prog 23, n ≤ B) :
    ∃ A n c es, cs = [.slice A n c] ∧ Rd W 7 A n (cEns es) ∧ n * 72 ≤ B := by
  rcases open_slice Tryz.underlying23 h with ⟨rfl, _⟩ | ⟨a, len, cap, m, n, D, Pl, rfl, _, hl, _, hm, rfl, hi⟩
  · exact ⟨none, 0, 0, [], rfl, ⟨rfl, fun h => absurd h (by omega)⟩, by omega⟩
  · have hlm : len ≤ m := by rw [hm]; split <;> omega
    have hk : ∀ i, i < len → ∃ e : En, ∀ k u, (cEn e)[k]? = some u → W.cell? (a.add (i * 7 + k)) = some u := by
      intro i hil
      obtain ⟨cs', hc, ht⟩ := hi i (by omega)
      rw [cellsOf_entry] at hc
      obtain ⟨e, rfl, _⟩ := trod_entry ht
      obtain ⟨_, _, hat⟩ := World.cells?_some hc
      refine ⟨e, fun k u hu => ?_⟩
      have hk : k < 7 := (List.getElem?_eq_some_iff.1 hu).1
      have := hat k hk
      rw [add_assoc_] at this
      rw [this, hu]
    obtain ⟨f, hfn⟩ := Classical.axiomOfChoice (r := fun (i : Nat) (e : En) => i < len → ∀ k u, (cEn e)[k]? = some u → W.cell? (a.add (i * 7 + k)) = some u) (fun i => by
      by_cases h : i < len
      · obtain ⟨k, hk⟩ := hk i h
        exact ⟨k, fun _ => hk⟩
      · exact ⟨default, fun q => absurd q h⟩)
    refine ⟨some a, len, cap, (List.range len).map f, rfl, ?_, ?_⟩
    · refine ⟨by rw [cEns_length]; simp, fun h0 => ⟨a, rfl, ?_, fun j u hu => ?_⟩⟩
      · have := World.block_lt_of_cell? _ _ (hfn 0 h0 0 _ rfl)
        rwa [add_block] at this
      · have hj : j < len * 7 := by
          have := (List.getElem?_eq_some_iff.1 hu).1
          rw [cEns_length] at this
          simpa using this
        have hj2 : j / 7 < len := by omega
        have hq : ((List.range len).map f)[j / 7]? = some (f (j / 7)) := by simp [hj2]
        have hj' : j = j / 7 * 7 + j % 7 := by omega
        rw [hj', cEns_get _ _ _ hq (j % 7) (by omega)] at hu
        rw [hj']
        exact hfn (j / 7) hj2 _ u hu
    · have := (weights_slice Tryz.underlying23 hw).1
      have hb : Tryz.prog.bytesOf 36 = 72 := by kernel_rfl
      rw [hb] at this
      simp only [List.length_map, List.length_range] at this
      omega

end

theorem weights_at {H : Type} {ts : List TypeId} {ds : List (DataW H)} (h : (DataW.weightsEach Tryz.prog ts ds).all (· ≤ reachBytes) = true) {j : Nat} {t : TypeId} {d : DataW H} (ht : ts[j]? = some t) (hd : ds[j]? = some d) : ∀ n ∈ d.weights Tryz.prog t, n ≤ 140737488351232 := by
  intro n hn
  have := List.all_eq_true.1 h n (DataW.weights_mem_each ht hd n hn)
  have hr : reachBytes ≤ 140737488351232 := by decide
  simp only [decide_eq_true_eq] at this
  omega

section
variable {H : Type} {enc : TypeId × Value → H} {W : World} {base : Nat} {v : Value} {d : DataW H} {p : List MemPlace}

set_option maxRecDepth 100000 in
theorem open_entries (hval : Value.okWide Tryz.prog W .any base 23 v) (h : DataW.Trod enc Tryz.prog W 0 (fun _ => true) true 23 v d p) (hw : ∀ n ∈ d.weights Tryz.prog 23, n ≤ 140737488351232) :
    ∃ A n c es, v = .slice A n c ∧ Rd W 7 A n (cEns es) ∧ n ≤ 1954687338211 := by
  obtain ⟨a0, len, cap, rfl⟩ := okWide_slice Tryz.underlying23 hval
  obtain ⟨fuel, hf⟩ := h
  obtain ⟨A, n, c, es, e, h1, h2⟩ := trod_entries hf hw
  have e' : (.slice a0 len cap : Value) = .slice A n c := by simpa [Value.cells] using e
  exact ⟨A, n, c, es, e', h1, by omega⟩

set_option maxRecDepth 100000 in
theorem open_entry (hval : Value.okWide Tryz.prog W .any base 36 v) (h : DataW.Trod enc Tryz.prog W 0 (fun _ => true) true 36 v d p) : ∃ e : En, v = vEn e ∧ EnIn e := by
  obtain ⟨cs, rfl, hsz⟩ := okWide_struct Tryz.underlying36 hval
  obtain ⟨fuel, hf⟩ := h
  obtain ⟨e, he, hin⟩ := trod_entry hf
  refine ⟨e, ?_, hin⟩
  have : cs.toList = cEn e := by simpa [Value.cells] using he
  unfold vEn
  rw [show cs = (cEn e).toArray by rw [← this]]
  rfl
end
end Go.Proofs.YtoacobcbloljkaaGreatDoor