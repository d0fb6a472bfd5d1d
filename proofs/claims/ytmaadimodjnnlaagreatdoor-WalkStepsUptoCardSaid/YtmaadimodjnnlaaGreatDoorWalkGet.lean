/-
  The walks of layer 14's sources: the first entry of a key in a list; a cache; the names of whole directories.
-/
import Derived.Test.YtmaadimodjnnlaaGreatDoorDent
namespace Go.Proofs.YtmaadimodjnnlaaGreatDoor
open Go.RowKit

def cEn (e : En) : List Value := [.int .i64 e.1.1, txt e.1.2, .bool e.2.1, .int .i64 e.2.2.1, .int .i64 e.2.2.2.1, .int .i64 e.2.2.2.2.1, txt e.2.2.2.2.2]
def cEns (l : List En) : List Value := l.flatMap cEn

theorem cEns_get (l : List En) (k : Nat) (x : En) (h : l[k]? = some x) (i : Nat) (hi : i < 7) : (cEns l)[k * 7 + i]? = (cEn x)[i]? := by
  induction l generalizing k with
  | nil => simp at h
  | cons y r ih =>
    have hl : (cEn y).length = 7 := rfl
    unfold cEns at *
    rw [List.flatMap_cons]
    cases k with
    | zero =>
      simp only [List.getElem?_cons_zero] at h
      injection h with h
      subst h
      rw [Nat.zero_mul, Nat.zero_add, List.getElem?_append_left (by omega)]
    | succ k =>
      simp only [List.getElem?_cons_succ] at h
      rw [List.getElem?_append_right (by omega), ← ih k h]
      congr 1
      omega

theorem cEns_length (l : List En) : (cEns l).length = l.length * 7 := by
  induction l with
  | nil => rfl
  | cons y r ih =>
    unfold cEns at *
    rw [List.flatMap_cons, List.length_append, ih]
    have : (cEn y).length = 7 := rfl
    rw [this, List.length_cons]
    omega

theorem heap_new_at (w : World) (o : Obj) {n : Nat} (h : n = w.heap.size) : (w.alloc o).heap[n]? = some o := by subst h; exact heap_alloc_new _ _

theorem add_at (a : Addr) (i : Nat) (h : i ≠ 0) : a.add i = ⟨a.block, a.off + i, none⟩ := by unfold Addr.add; rw [if_neg h]

/-- Reading a list of entries. -/
theorem Rd.en_at {w : World} {A : Option Addr} {n : Nat} {l : List En} (h : Rd w 7 A n (cEns l)) {k : Nat} (hk : k < n) :
    ∃ (ad : Addr) (d : Int) (nm : List UInt8) (ng : Bool) (i kd md : Int) (tg : List UInt8), A = some ad ∧ ad.block < w.heap.size ∧ l[k]? = some ((d, nm), ng, i, kd, md, tg) ∧
      w.cell? (ad.add (k * 7)) = some (.int .i64 d) ∧ w.cell? ⟨(ad.add (k * 7)).block, (ad.add (k * 7)).off + 1, none⟩ = some (.string ⟨nm.toArray⟩) ∧
      w.cell? ⟨(ad.add (k * 7)).block, (ad.add (k * 7)).off + 2, none⟩ = some (.bool ng) ∧ w.cell? ⟨(ad.add (k * 7)).block, (ad.add (k * 7)).off + 3, none⟩ = some (.int .i64 i) ∧
      w.cell? ⟨(ad.add (k * 7)).block, (ad.add (k * 7)).off + 4, none⟩ = some (.int .i64 kd) ∧ w.cell? ⟨(ad.add (k * 7)).block, (ad.add (k * 7)).off + 5, none⟩ = some (.int .i64 md) ∧
      w.cell? ⟨(ad.add (k * 7)).block, (ad.add (k * 7)).off + 6, none⟩ = some (.string ⟨tg.toArray⟩) := by
  obtain ⟨ad, e, hb, hc⟩ := h.2 (by omega)
  have hl : k < l.length := by have := h.1; rw [cEns_length] at this; omega
  obtain ⟨x, hx⟩ : ∃ x, l[k]? = some x := ⟨_, List.getElem?_eq_getElem hl⟩
  have hg := fun i hi => cEns_get l k x hx i hi
  obtain ⟨⟨d, nm⟩, ng, i, kd, md, tg⟩ := x
  have c : ∀ (j : Nat) (u : Value), j < 7 → (cEn ((d, nm), ng, i, kd, md, tg))[j]? = some u → w.cell? ((ad.add (k * 7)).add j) = some u := fun j u hj hu => by
    rw [add_assoc_]
    exact hc _ _ ((hg j hj).trans hu)
  refine ⟨ad, d, nm, ng, i, kd, md, tg, e, hb, hx, ?_, ?_, ?_, ?_, ?_, ?_, ?_⟩
  · have := c 0 (.int .i64 d) (by omega) rfl
    rwa [show (ad.add (k * 7)).add 0 = ad.add (k * 7) from by unfold Addr.add; simp] at this
  all_goals rw [← add_at _ _ (by decide)]
  · exact c 1 _ (by omega) rfl
  · exact c 2 _ (by omega) rfl
  · exact c 3 _ (by omega) rfl
  · exact c 4 _ (by omega) rfl
  · exact c 5 _ (by omega) rfl
  · exact c 6 _ (by omega) rfl

/-- The first entry of a key. -/
def firstOf (l : List En) (k : Key) : Option En := l.find? fun x => decide (x.1 = k)

theorem firstOf_at {l : List En} {k : Key} {j : Nat} {x : En} (h : ∀ i y, i < j → l[i]? = some y → y.1 ≠ k) (hx : l[j]? = some x) (hk : x.1 = k) : firstOf l k = some x := by
  unfold firstOf
  induction l generalizing j with
  | nil => simp at hx
  | cons y r ih =>
    cases j with
    | zero =>
      simp only [List.getElem?_cons_zero] at hx
      injection hx with hx
      subst hx
      rw [List.find?_cons_of_pos (by simp [hk])]
    | succ j =>
      have h0 := h 0 y (by omega) rfl
      rw [List.find?_cons_of_neg (by simp [h0])]
      exact ih (j := j) (fun i z hi hz => h (i + 1) z (by omega) hz) (by simpa using hx)

theorem firstOf_none {l : List En} {k : Key} (h : ∀ i y, i < l.length → l[i]? = some y → y.1 ≠ k) : firstOf l k = none := by
  unfold firstOf
  refine List.find?_eq_none.2 fun y hy => ?_
  obtain ⟨i, hi⟩ := List.getElem?_of_mem hy
  have := h i y (List.getElem?_eq_some_iff.1 hi).1 hi
  simp [this]

theorem Rd.en_len {w : World} {A : Option Addr} {n : Nat} {l : List En} (h : Rd w 7 A n (cEns l)) : l.length = n := by
  have := h.1
  rw [cEns_length] at this
  omega

set_option maxHeartbeats 400000 in
theorem keyIs_any (x : En) (b : Nat) (k : Key) (w : World) (hk0 : w.cell? ⟨b, 0, none⟩ = some (.int .i64 k.1)) (hk1 : w.cell? ⟨b, 1, none⟩ = some (.string ⟨k.2.toArray⟩)) :
    Calls Tryz.prog 248 #[vEn x, .pointer (some ⟨b, 0, none⟩)] w fun r w' => r = .returned (.bool (decide (x.1 = k))) ∧ Below w.heap.size w w' := by
  obtain ⟨⟨d, nm⟩, ng, i, kd, md, tg⟩ := x
  have hq : ∀ W : World, (binOp .eql 29 (vKey (d, nm)) (vKey k)).run Tryz.prog W = .ok (.bool (decide ((d, nm) = k))) W := fun W => by
    have := eq_key (d, nm) k W
    unfold Op.equal Op.maxDepth at this
    unfold vKey at this ⊢
    rw [run_eql_struct, this]
    rfl
  unfold vKey at hq
  simp only [txt] at hq
  have c0 : ∀ o, (w.alloc o).cell? ⟨b, 0, none⟩ = some (.int .i64 k.1) := fun o => cell_alloc_old hk0 o
  have c1 : ∀ o, (w.alloc o).cell? ⟨b, 1, none⟩ = some (.string ⟨k.2.toArray⟩) := fun o => cell_alloc_old hk1 o
  have hlt : b < w.heap.size := World.block_lt_of_cell? _ _ hk0
  unfold vEn
  simp only [txt]
  generalize decide ((d, nm) = k) = q at *
  go_enter Tryz.func248, Tryz.ntmps248
  go_wp2_with fail
  go_ret
  exact ⟨rfl, (Below.refl _ _).alloc (Nat.le_refl _) _⟩

set_option maxRecDepth 100000 in
set_option maxHeartbeats 400000 in
theorem indexFunc_any (A : Option Addr) (n c b : Nat) (l : List En) (k : Key) (w : World) (hn : n ≤ 17592186044416) (hr : Rd w 7 A n (cEns l)) (hk0 : w.cell? ⟨b, 0, none⟩ = some (.int .i64 k.1)) (hk1 : w.cell? ⟨b, 1, none⟩ = some (.string ⟨k.2.toArray⟩)) :
    Calls Tryz.prog 247 #[.slice A n c, .func (.func 248) #[] #[.pointer (some ⟨b, 0, none⟩)]] w fun r w' =>
      ((∃ (j : Nat) (x : En), r = .returned (.int .i64 j) ∧ j < n ∧ l[j]? = some x ∧ firstOf l k = some x) ∨ (r = .returned (.int .i64 (-1)) ∧ firstOf l k = none)) ∧ Below w.heap.size w w' := by
  have hlt0 : b < w.heap.size := World.block_lt_of_cell? _ _ hk0
  have hlen := hr.en_len
  have HR := Lib.hid hr
  have HK0 := Lib.hid hk0
  have HK1 := Lib.hid hk1
  clear hr hk0 hk1
  go_enter Tryz.func247, Tryz.ntmps247
  go_wp2_with fail
  go_loopw [8, 5] (fun i _ wr => ∃ j : Nat, j ≤ n ∧ i = .int .i64 j ∧ Below w.heap.size w wr ∧ Hid (∀ i y, i < j → l[i]? = some y → y.1 ≠ k)) (fun i _ _ => n - (intOf i).toNat)
  case atStart => exact ⟨0, by omega, rfl, Below.refl _ _, fun i y hi => absurd hi (by omega)⟩
  case round =>
    obtain ⟨j, hj, rfl, hb, hno⟩ := hrel
    by_cases hlt : j < n
    · obtain ⟨ad, d, nm, ng, i, kd, md, tg, rfl, hbl, hx, h1, h2, h3, h4, h5, h6, h7⟩ := (HR.out.below hb).en_at hlt
      have hc := keyIs_any ((d, nm), ng, i, kd, md, tg) b k wr ((hb.cell (by exact hlt0)).trans HK0.out) ((hb.cell (by exact hlt0)).trans HK1.out)
      simp only [vEn, txt] at hc
      have HC := Lib.hid hc
      have HX := Lib.hid hx
      clear hc hx
      go_wp2_with fail
      refine (HC.out).mono ?_
      rintro r w2 ⟨rfl, hb2⟩
      by_cases hq : ((d, nm) : Key) = k
      · rw [decide_eq_true hq]
        have hf := firstOf_at hno.out HX.out hq
        have HF := Lib.hid hf
        clear hf
        go_wp2_with fail
        go_ret
        exact ⟨.inl ⟨j, _, rfl, hlt, HX.out, HF.out⟩, hb.trans (hb2.mono hb.size)⟩
      · rw [decide_eq_false hq]
        have HQ := Lib.hid hq
        clear hq
        go_wp2_with fail
        go_roundw
        case rel =>
          refine ⟨j + 1, by omega, by go_num, hb.trans (hb2.mono hb.size), fun i y hi hy => ?_⟩
          by_cases e : i = j
          · subst e
            rw [HX.out] at hy
            injection hy with hy
            subst hy
            exact HQ.out
          · exact hno.out i y (by omega) hy
        case measure => simp [intOf] <;> omega
    · have hf : firstOf l k = none := firstOf_none fun i y hi hy => hno.out i y (by omega) hy
      have HF := Lib.hid hf
      clear hf
      go_wp2_with fail
      go_ret
      exact ⟨.inr ⟨rfl, HF.out⟩, hb⟩

theorem below_sets {w w1 : World} {v0 v1 v2 v3 v4 v5 v6 : Value} (h : Below w.heap.size w w1) :
    Below w.heap.size w (((((((w1.setCell ⟨w.heap.size + 1, 0, none⟩ v0).setCell ⟨w.heap.size + 1, 1, none⟩ v1).setCell ⟨w.heap.size + 1, 2, none⟩ v2).setCell ⟨w.heap.size + 1, 3, none⟩ v3).setCell ⟨w.heap.size + 1, 4, none⟩ v4).setCell ⟨w.heap.size + 1, 5, none⟩ v5).setCell ⟨w.heap.size + 1, 6, none⟩ v6) :=
  ((((((h.setCell (by simp) _).setCell (by simp) _).setCell (by simp) _).setCell (by simp) _).setCell (by simp) _).setCell (by simp) _).setCell (by simp) _

def noEn : En := ((0, []), false, 0, 0, 0, [])

set_option maxRecDepth 100000 in
set_option maxHeartbeats 400000 in
theorem listGet_any (A : Option Addr) (n c : Nat) (l : List En) (k : Key) (w : World) (hn : n ≤ 17592186044416) (hr : Rd w 7 A n (cEns l)) :
    Calls Tryz.prog 246 #[.slice A n c, vKey k] w fun r w' =>
      r = .returned (.tuple #[vEn ((firstOf l k).getD noEn), .bool (firstOf l k).isSome]) ∧ Below w.heap.size w w' := by
  have hi := fun b W h1 h2 h3 => indexFunc_any A n c b l k W hn h1 h2 h3
  have HI := Lib.hid hi
  have HR := Lib.hid hr
  clear hi hr
  obtain ⟨d, nm⟩ := k
  unfold vKey
  simp only [txt]
  go_enter Tryz.func246, Tryz.ntmps246
  go_wp2_with fail
  refine (HI.out _ _ ((HR.out.alloc _).alloc _) ?_ ?_).mono ?_
  · simp
  · simp
  rintro r w1 ⟨⟨j, ⟨⟨d', nm'⟩, ng, i, kd, md, tg⟩, rfl, hj, hx, hf⟩ | ⟨rfl, hf⟩, hb⟩
  all_goals
    have hB := (hb.block (w.heap.size + 1) (by simp)).trans (heap_new_at (w.alloc (.cells #[.int .i64 d, .string ⟨nm.toArray⟩] 29)) (.cells #[.int .i64 0, .string ⟨#[]⟩, .bool false, .int .i64 0, .int .i64 0, .int .i64 0, .string ⟨#[]⟩] 52) (n := w.heap.size + 1) (by simp))
    have b0 : w1.cell? ⟨w.heap.size + 1, 0, none⟩ = some (.int .i64 0) := by rw [blk_cell hB]; rfl
    have b1 : w1.cell? ⟨w.heap.size + 1, 1, none⟩ = some (.string ⟨#[]⟩) := by rw [blk_cell hB]; rfl
    have b2 : w1.cell? ⟨w.heap.size + 1, 2, none⟩ = some (.bool false) := by rw [blk_cell hB]; rfl
    have b3 : w1.cell? ⟨w.heap.size + 1, 3, none⟩ = some (.int .i64 0) := by rw [blk_cell hB]; rfl
    have b4 : w1.cell? ⟨w.heap.size + 1, 4, none⟩ = some (.int .i64 0) := by rw [blk_cell hB]; rfl
    have b5 : w1.cell? ⟨w.heap.size + 1, 5, none⟩ = some (.int .i64 0) := by rw [blk_cell hB]; rfl
    have b6 : w1.cell? ⟨w.heap.size + 1, 6, none⟩ = some (.string ⟨#[]⟩) := by rw [blk_cell hB]; rfl
    have bf : ∀ k, w1.frozen? ⟨w.heap.size + 1, k, none⟩ = false := fun k => blk_frozen hB k
    have hbw : Below w.heap.size w w1 := (((Below.refl _ w).alloc (Nat.le_refl _) _).alloc (by simp) _).trans (hb.mono (by simp; omega))
    have HB := Lib.hid hbw
    clear hB hbw
  · obtain ⟨ad, d2, nm2, ng2, i2, kd2, md2, tg2, rfl, hbl, hx2, h1, h2, h3, h4, h5, h6, h7⟩ := (((HR.out.alloc _).alloc _).below hb).en_at hj
    rw [hx] at hx2
    injection hx2 with hx2
    obtain ⟨⟨rfl, rfl⟩, rfl, rfl, rfl, rfl, rfl⟩ : (d' = d2 ∧ nm' = nm2) ∧ ng = ng2 ∧ i = i2 ∧ kd = kd2 ∧ md = md2 ∧ tg = tg2 := by simpa using hx2
    have HF := Lib.hid hf
    clear hf hb hx hx2
    go_wp2_with fail
    refine bodyPost_ret (v := .tuple #[vEn ((d', nm'), ng, i, kd, md, tg), .bool true]) (by simp [results, Tryz.results246, go_sem, vEn, txt, b0, b1, b2, b3, b4, b5, b6]) rfl ?_
    rw [HF.out]
    exact ⟨rfl, below_sets HB.out⟩
  · have HF := Lib.hid hf
    clear hf hb
    go_wp2_with fail
    refine bodyPost_ret (v := .tuple #[vEn noEn, .bool false]) (by simp [results, Tryz.results246, go_sem, vEn, txt, noEn, b0, b1, b2, b3, b4, b5, b6]) rfl ?_
    rw [HF.out]
    exact ⟨rfl, below_sets HB.out⟩
end Go.Proofs.YtmaadimodjnnlaaGreatDoor
