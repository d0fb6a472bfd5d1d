/-
  The reference of layer 12: what writes its lists.
-/
import Derived.Test.YtoacobcbloljkaaGreatDoorRef12
namespace Go.Proofs.YtoacobcbloljkaaGreatDoor
open Go.RowKit






/-- l[i:]. -/
theorem run_from (w : World) {A : Option Addr} {n cp : Nat} {L : List En} (hr : Rd w 7 A n (cEns L)) {x : Int} {i : Nat} (hx : x = i) (hi : i ≤ n) (hc : n ≤ cp) :
    ∃ A2 c2, (∀ V : World, (Instr.slice 23 (.slice A n cp) (some (.int .i64 x)) none none).run Tryz.prog V = .ok (.slice A2 (n - i) c2) V) ∧ Rd w 7 A2 (n - i) (cEns (L.drop i)) := by
  subst hx
  have hs : ∀ V : World, (sizeOf (Tryz.prog.elem 23)).run Tryz.prog V = .ok 7 V := fun V => by kernel_rfl
  have hrun : ∀ V : World, (Instr.slice 23 (.slice A n cp) (some (.int .i64 (i : Int))) none none).run Tryz.prog V = .ok (sliced A i n cp 7) V := fun V => by
    rw [run_slice_l (P := Tryz.prog) (w := V) 23 A n cp (by kernel_rfl) .i64 (i : Int) (by omega) (by omega), hs]
    rfl
  unfold sliced at hrun
  by_cases h : cp = i
  · rw [if_pos h] at hrun
    refine ⟨A, _, hrun, ?_⟩
    rw [show n - i = 0 from by omega]
    exact hr.drop0 (by omega)
  · rw [if_neg h] at hrun
    cases A with
    | none =>
      have : n = 0 := by
        by_cases h0 : 0 < n
        · obtain ⟨_, e, _⟩ := hr.2 h0
          cases e
        · omega
      refine ⟨_, _, hrun, ?_⟩
      rw [show n - i = 0 from by omega]
      exact hr.drop0 (by omega)
    | some ad => exact ⟨_, _, hrun, hr.drop hi⟩

section
variable {w w' : World} {B cb : Nat} {F : Nat → Prop} {Al : Option Addr} {cl : Nat} {Aw : Option Addr} {cw : Nat} {L L' : List En} {W W' : List Int}

/-- A new list in the place of the entries. -/
theorem RefAt.setL (H : RefAt w B cb F Al cl Aw cw L W) (hk : Kp (fun k => k < w.heap.size) w w') {A' : Option Addr} {c' : Nat} (hB : B ≤ w.heap.size)
    (ho : w'.ownsRow w.heap.size 36 7 (.slice A' L'.length c') L'.length (cEns L')) :
    RefAt (w'.setCell ⟨cb, 0, none⟩ (.slice A' L'.length c')) B cb F A' c' Aw cw L' W ∧ Kp F w (w'.setCell ⟨cb, 0, none⟩ (.slice A' L'.length c')) := by
  have hc := H.blk.lt
  have hnew : ∀ k, (Value.slice A' L'.length c').ownBlock = some k → w.heap.size ≤ k := fun k e => (ho.lt k e).1
  have hlt : ∀ k, (Value.slice Aw W.length cw).ownBlock = some k → k < w.heap.size := fun k e => (H.wo.lt k e).2
  have h1 : RefAt w' B cb F Al cl Aw cw L W := H.kp hk hc (fun j e => (H.lo.lt j e).2) hlt
  have hk2 : Kp (fun k => k ≠ cb) w' (w'.setCell ⟨cb, 0, none⟩ (.slice A' L'.length c')) := (Kp.refl _ w').setCell (fun _ q => q rfl) _
  refine ⟨⟨h1.blk.setCell 0 _, own_base (own_kp ho hk2 fun k e => ?_) hB, own_kp h1.wo hk2 fun k e => (H.dw k e), fun k hF => ⟨Nat.lt_of_lt_of_le (h1.fr k hF).1 hk2.size, (H.fr k hF).2.1, fun e => ?_, (H.fr k hF).2.2.2⟩, fun k e => ⟨?_, fun e2 => ?_⟩, H.dw⟩, ?_⟩
  · have := hnew k e; omega
  · have := hnew k e
    have := (H.fr k hF).1
    omega
  · have := hnew k e; omega
  · have := hnew k e
    have := hlt k e2
    omega
  · exact (hk.mono fun k _ hF => (H.fr k hF).1).setCell (fun _ hF => (H.fr cb hF).2.1 rfl) _

/-- A new list in the place of the directories. -/
theorem RefAt.setW (H : RefAt w B cb F Al cl Aw cw L W) (hk : Kp (fun k => k < w.heap.size) w w') {A' : Option Addr} {c' : Nat} (hB : B ≤ w.heap.size)
    (ho : w'.ownsRow w.heap.size 3 1 (.slice A' W'.length c') W'.length (vIs W')) :
    RefAt (w'.setCell ⟨cb, 1, none⟩ (.slice A' W'.length c')) B cb F Al cl A' c' L W' ∧ Kp F w (w'.setCell ⟨cb, 1, none⟩ (.slice A' W'.length c')) := by
  have hc := H.blk.lt
  have hnew : ∀ k, (Value.slice A' W'.length c').ownBlock = some k → w.heap.size ≤ k := fun k e => (ho.lt k e).1
  have hlt : ∀ k, (Value.slice Al L.length cl).ownBlock = some k → k < w.heap.size := fun k e => (H.lo.lt k e).2
  have h1 : RefAt w' B cb F Al cl Aw cw L W := H.kp hk hc hlt (fun j e => (H.wo.lt j e).2)
  have hk2 : Kp (fun k => k ≠ cb) w' (w'.setCell ⟨cb, 1, none⟩ (.slice A' W'.length c')) := (Kp.refl _ w').setCell (fun _ q => q rfl) _
  refine ⟨⟨h1.blk.setCell 1 _, own_kp h1.lo hk2 fun k e => (H.dl k e).1, own_base (own_kp ho hk2 fun k e => ?_) hB, fun k hF => ⟨Nat.lt_of_lt_of_le (h1.fr k hF).1 hk2.size, (H.fr k hF).2.1, (H.fr k hF).2.2.1, fun e => ?_⟩, fun k e => ⟨(H.dl k e).1, fun e2 => ?_⟩, fun k e => ?_⟩, ?_⟩
  · have := hnew k e; omega
  · have := hnew k e
    have := (H.fr k hF).1
    omega
  · have := hnew k e2
    have := hlt k e
    omega
  · have := hnew k e; omega
  · exact (hk.mono fun k _ hF => (H.fr k hF).1).setCell (fun _ hF => (H.fr cb hF).2.1 rfl) _

/-- An entry is laid behind the others. -/
theorem RefAt.pushL (H : RefAt w B cb F Al cl Aw cw L W) (hk : Kp (fun k => k < w.heap.size ∧ (Value.slice Al L.length cl).ownBlock ≠ some k) w w') {A' : Option Addr} {c' : Nat} {x : En}
    (ho : w'.ownsRow B 36 7 (.slice A' (L.length + 1) c') (L.length + 1) (cEns L ++ cEns [x])) (hnew : ∀ k, (Value.slice A' (L.length + 1) c').ownBlock = some k → (Value.slice Al L.length cl).ownBlock = some k ∨ w.heap.size ≤ k) :
    RefAt (w'.setCell ⟨cb, 0, none⟩ (.slice A' (L.length + 1) c')) B cb F A' c' Aw cw (L ++ [x]) W ∧ Kp F w (w'.setCell ⟨cb, 0, none⟩ (.slice A' (L.length + 1) c')) := by
  have e : L.length + 1 = (L ++ [x]).length := by simp
  rw [e, ← cEns_append] at ho
  rw [e] at hnew ⊢
  have hc := H.blk.lt
  have hk2 : Kp (fun k => k ≠ cb) w' (w'.setCell ⟨cb, 0, none⟩ (.slice A' (L ++ [x]).length c')) := (Kp.refl _ w').setCell (fun _ q => q rfl) _
  have hlw : ∀ k, (Value.slice Aw W.length cw).ownBlock = some k → k < w.heap.size ∧ (Value.slice Al L.length cl).ownBlock ≠ some k := fun k e => ⟨(H.wo.lt k e).2, fun e2 => (H.dl k e2).2 e⟩
  refine ⟨⟨(H.blk.kp hk ⟨hc, fun e => (H.dl _ e).1 rfl⟩).setCell 0 _, own_kp ho hk2 fun k e => ?_, own_kp (own_kp H.wo hk hlw) hk2 fun k e => (H.dw k e), fun k hF => ⟨Nat.lt_of_lt_of_le (H.fr k hF).1 (Nat.le_trans hk.size hk2.size), (H.fr k hF).2.1, fun e => ?_, (H.fr k hF).2.2.2⟩, fun k e => ⟨?_, fun e2 => ?_⟩, H.dw⟩, ?_⟩
  · rcases hnew k e with h | h
    · exact (H.dl k h).1
    · omega
  · rcases hnew k e with h | h
    · exact (H.fr k hF).2.2.1 h
    · have := (H.fr k hF).1
      omega
  · rcases hnew k e with h | h
    · exact (H.dl k h).1
    · omega
  · rcases hnew k e with h | h
    · exact (H.dl k h).2 e2
    · have := (hlw k e2).1
      omega
  · exact (hk.mono fun k _ hF => ⟨(H.fr k hF).1, (H.fr k hF).2.2.1⟩).setCell (fun _ hF => (H.fr cb hF).2.1 rfl) _

/-- A directory is laid behind the others. -/
theorem RefAt.pushW (H : RefAt w B cb F Al cl Aw cw L W) (hk : Kp (fun k => k < w.heap.size ∧ (Value.slice Aw W.length cw).ownBlock ≠ some k) w w') {A' : Option Addr} {c' : Nat} {x : Int}
    (ho : w'.ownsRow B 3 1 (.slice A' (W.length + 1) c') (W.length + 1) (vIs W ++ vIs [x])) (hnew : ∀ k, (Value.slice A' (W.length + 1) c').ownBlock = some k → (Value.slice Aw W.length cw).ownBlock = some k ∨ w.heap.size ≤ k) :
    RefAt (w'.setCell ⟨cb, 1, none⟩ (.slice A' (W.length + 1) c')) B cb F Al cl A' c' L (W ++ [x]) ∧ Kp F w (w'.setCell ⟨cb, 1, none⟩ (.slice A' (W.length + 1) c')) := by
  have e : W.length + 1 = (W ++ [x]).length := by simp
  rw [e, ← vIs_append] at ho
  rw [e] at hnew ⊢
  have hc := H.blk.lt
  have hk2 : Kp (fun k => k ≠ cb) w' (w'.setCell ⟨cb, 1, none⟩ (.slice A' (W ++ [x]).length c')) := (Kp.refl _ w').setCell (fun _ q => q rfl) _
  have hll : ∀ k, (Value.slice Al L.length cl).ownBlock = some k → k < w.heap.size ∧ (Value.slice Aw W.length cw).ownBlock ≠ some k := fun k e => ⟨(H.lo.lt k e).2, (H.dl k e).2⟩
  refine ⟨⟨(H.blk.kp hk ⟨hc, fun e => H.dw _ e rfl⟩).setCell 1 _, own_kp (own_kp H.lo hk hll) hk2 fun k e => (H.dl k e).1, own_kp ho hk2 fun k e => ?_, fun k hF => ⟨Nat.lt_of_lt_of_le (H.fr k hF).1 (Nat.le_trans hk.size hk2.size), (H.fr k hF).2.1, (H.fr k hF).2.2.1, fun e => ?_⟩, fun k e => ⟨(H.dl k e).1, fun e2 => ?_⟩, fun k e => ?_⟩, ?_⟩
  · rcases hnew k e with h | h
    · exact H.dw k h
    · omega
  · rcases hnew k e with h | h
    · exact (H.fr k hF).2.2.2 h
    · have := (H.fr k hF).1
      omega
  · rcases hnew k e2 with h | h
    · exact (H.dl k e).2 h
    · have := (hll k e).1
      omega
  · rcases hnew k e with h | h
    · exact H.dw k h
    · omega
  · exact (hk.mono fun k _ hF => ⟨(H.fr k hF).1, (H.fr k hF).2.2.2⟩).setCell (fun _ hF => (H.fr cb hF).2.1 rfl) _
end

/-- What each call on the reference's cache leaves. -/
def RefPost (w : World) (B cb : Nat) (F : Nat → Prop) (L : List En) (W : List Int) (v : Value) (r : Ending) (w' : World) : Prop :=
  r = .returned v ∧ ∃ A' c' A2 c2, RefAt w' B cb F A' c' A2 c2 L W ∧ Kp F w w'

set_option maxRecDepth 100000 in
set_option maxHeartbeats 2000000 in
theorem refOut_any (w : World) (B cb : Nat) (F : Nat → Prop) (Al : Option Addr) (cl : Nat) (Aw : Option Addr) (cw : Nat) (L : List En) (W : List Int) (i : Nat) (hi : i < L.length) (hn : L.length ≤ 1900000000000) (hB : B ≤ w.heap.size) (H : RefAt w B cb F Al cl Aw cw L W) :
    Calls Tryz.prog 112 #[.pointer (some ⟨cb, 0, none⟩), .int .i64 i] w (RefPost w B cb F (L.eraseIdx i) W (.tuple #[])) := by
  have c0 := H.c0
  obtain ⟨hc1, hc2⟩ := own_cap H.lo
  unfold maxLen at hc2
  have HR := Lib.hid (Rd.of_own H.lo)
  have hl1 : (L.take i).length = i := by rw [List.length_take]; omega
  have hl2 : (L.drop (i + 1)).length = L.length - (i + 1) := List.length_drop
  have HL1 := Lib.hid hl1
  have HL2 := Lib.hid hl2
  have HH := Lib.hid H
  clear H hl1 hl2
  go_enter Tryz.func112, Tryz.ntmps112
  go_upto_region 2 with (at_builtin; refine wpList_append_rd rfl _ _ rfl elemEntries rfl (World.ownsRow_nil w w.heap.size 36 7) rfl (HR.out.take (i := i) (by omega)) (cEns_one _) ?c1 ?c2 (Nat.le_refl _) ?_; (case c1 => unfold maxLen; omega); (case c2 => omega); intro v1 w1 hown1 hg1 hl1; have hg2 : w.grownBy w1 none := hg1; have HO1 := Lib.hid hown1; clear hg1 hl1 hown1)
  have hk1 : Kp (fun _ => True) w w1 := (Kp.refl _ w).grown hg2 (fun k e => by cases e)
  have HK1 := Lib.hid hk1
  have H1 := Lib.hid (HH.out.kp hk1 trivial (fun _ _ => trivial) (fun _ _ => trivial))
  clear hg2 hk1 c0
  obtain ⟨A2, c2, hrun, hr2⟩ := run_from w1 (Rd.of_own H1.out.lo) (x := (i : Int) + 1) (i := i + 1) (by omega) (by omega) hc1
  have HR2 := Lib.hid hr2
  have c0 := H1.out.c0
  clear hr2
  go_wp2_with (at_builtin; refine wpList_hold ?_)
  refine Lib.hid ?_
  refine wpList_append_rd rfl _ _ rfl elemEntries rfl HO1.out rfl HR2.out (cEns_one _) (by unfold maxLen; omega) (by omega) HK1.out.size ?_
  intro v2 w2 hown2 hg2 _
  obtain ⟨A3, c3, rfl⟩ := own_slice hown2
  have HO2 := Lib.hid hown2
  have hg3 : w1.grownBy w2 v1.ownBlock := hg2
  have HK2 := Lib.hid (Kp.grown (HK1.out.mono (Q := fun k => k < w.heap.size) (fun _ _ _ => trivial)) hg3 (fun k e hlt q => by have := (HO1.out.lt k e).1; omega))
  have hat := H1.out.blk.kp (Kp.grown (Kp.refl (fun k => k < w.heap.size) w1) hg3 (fun k e _ q => by have := (HO1.out.lt k e).1; omega)) HH.out.blk.lt
  have c0' : w2.cell? ⟨cb, 0, none⟩ = some (.slice Al L.length cl) := by rw [hat.cell]; rfl
  have f0' := hat.frozen 0
  clear hown2 hg2 hg3 hat hrun
  go_wp2_with fail
  have hown := HO2.out
  have e1 : [] ++ cEns (L.take i) ++ cEns (L.drop (i + 1)) = cEns (L.eraseIdx i) := by rw [List.nil_append, ← cEns_append, List.eraseIdx_eq_take_drop_succ]
  have e2 : i + (L.length - (i + 1)) = (L.eraseIdx i).length := by rw [List.length_eraseIdx_of_lt hi]; omega
  rw [e1, Nat.zero_add, e2] at hown
  rw [e2]
  obtain ⟨r1, r2⟩ := HH.out.setL HK2.out hB hown
  go_end0
  exact ⟨rfl, _, _, _, _, r1, r2⟩

def dropD (W : List Int) (d : Int) : List Int := W.filter fun x => !decide (x = d)
theorem dropD_snoc (W : List Int) (d x : Int) : dropD (W ++ [x]) d = dropD W d ++ if x = d then [] else [x] := by
  unfold dropD
  rw [List.filter_append]
  by_cases h : x = d <;> simp [h]

set_option maxRecDepth 100000 in
set_option maxHeartbeats 2000000 in
theorem refClear_any (w : World) (B cb : Nat) (F : Nat → Prop) (Al : Option Addr) (cl : Nat) (Aw : Option Addr) (cw : Nat) (L : List En) (W : List Int) (hB : B ≤ w.heap.size) (H : RefAt w B cb F Al cl Aw cw L W) :
    Calls Tryz.prog 56 #[.pointer (some ⟨cb, 0, none⟩)] w (RefPost w B cb F [] [] (.tuple #[])) := by
  have c0 := H.c0
  have c1 := H.c1
  have f0 := H.blk.frozen 0
  have f1 := H.blk.frozen 1
  have HH := Lib.hid H
  clear H
  go_enter Tryz.func56, Tryz.ntmps56
  go_wp2_with fail
  go_end0
  obtain ⟨r1, r2⟩ := HH.out.setL (Kp.refl _ w) hB (A' := none) (c' := 0) (L' := []) (World.ownsRow_nil _ _ _ _)
  obtain ⟨r3, r4⟩ := r1.setW (Kp.refl _ _) (by simpa [World.setCell] using hB) (A' := none) (c' := 0) (W' := []) (World.ownsRow_nil _ _ _ _)
  exact ⟨rfl, _, _, _, _, r3, r2.trans r4⟩

set_option maxRecDepth 100000 in
set_option maxHeartbeats 2000000 in
theorem refPart_any (w : World) (B cb : Nat) (F : Nat → Prop) (Al : Option Addr) (cl : Nat) (Aw : Option Addr) (cw : Nat) (L : List En) (W : List Int) (d : Int) (hn : W.length ≤ 1900000000000) (hB : B ≤ w.heap.size) (H : RefAt w B cb F Al cl Aw cw L W) :
    Calls Tryz.prog 113 #[.pointer (some ⟨cb, 0, none⟩), .int .i64 d] w (RefPost w B cb F L (dropD W d) (.tuple #[])) := by
  have HH := Lib.hid H
  clear H
  go_enter Tryz.func113, Tryz.ntmps113
  go_wp2_with fail
  go_loopw [4, 5] (fun v i wr => ∃ j : Nat, j ≤ W.length ∧ i = .int .i64 j ∧ Hid (wr.ownsRow w.heap.size 3 1 v (dropD (W.take j) d).length (vIs (dropD (W.take j) d))) ∧ Hid (Below w.heap.size w wr)) (fun _ i _ => W.length - (RowKit.intOf i).toNat)
  case atStart => exact ⟨0, by omega, rfl, World.ownsRow_nil _ _ _ _, Below.refl _ _⟩
  case round =>
    obtain ⟨j, hj, rfl, hown, hb⟩ := hrel
    have HR := Lib.hid (HH.out.below hb.out)
    have c1 := HR.out.c1
    by_cases hlt : j < W.length
    · obtain ⟨ad, u, rfl, hbl, hx, h1⟩ := (Rd.of_own HR.out.wo).at1 hlt
      have hx' : u = .int .i64 W[j] := by simpa [vIs, hlt, vI] using hx.symm
      subst hx'
      have htk : W.take (j + 1) = W.take j ++ [W[j]] := by simp
      have hle : (dropD (W.take j) d).length ≤ j := Nat.le_trans (List.length_filter_le _ _) (List.length_take_le _ _)
      have HT := Lib.hid htk
      clear hx htk
      cases hq : (W[j] != d) with
      | false =>
        have he : W[j] = d := by simpa using hq
        have HE := Lib.hid he
        clear he
        go_wp2_with fail
        go_roundw
        case rel =>
          have : dropD (W.take (j + 1)) d = dropD (W.take j) d := by rw [HT.out, dropD_snoc, if_pos HE.out, List.append_nil]
          exact ⟨j + 1, by omega, by go_num, by rw [this]; exact hown, hb⟩
        case measure => simp [RowKit.intOf] <;> omega
      | true =>
        have he : W[j] ≠ d := by simpa using hq
        have HE := Lib.hid he
        clear he
        have HRD : Hid (Rd (wr.alloc (.cells #[.int .i64 W[j]] 3)) 1 (some ⟨wr.heap.size, 0, none⟩) 1 (vIs [W[j]])) := rd_lit wr 3 [.int .i64 W[j]] 1 rfl
        go_wp2_with (at_builtin; refine wpList_hold ?_)
        refine Lib.hid ?_
        refine wpList_append_rd rfl _ _ rfl elemInts rfl (own_below hown.out ((Below.refl _ _).alloc (Nat.le_refl _) _)) rfl HRD.out (vIs_one _) (by unfold maxLen; omega) (by omega) (by have := hb.out.size; simp; omega) ?_
        intro v2 w2 hown2 hg2 _
        have hb2 : Below w.heap.size w w2 := (hb.out.alloc hb.out.size _).grown hg2 (by have := hb.out.size; simp; omega) (fun k e => (hown.out.lt k e).1)
        have HO2 := Lib.hid hown2
        have HB2 := Lib.hid hb2
        clear hown2 hg2 hb2 c1
        go_wp2_with fail
        go_roundw
        case rel =>
          have : dropD (W.take (j + 1)) d = dropD (W.take j) d ++ [W[j]] := by rw [HT.out, dropD_snoc, if_neg HE.out]
          exact ⟨j + 1, by omega, by go_num, by rw [this, List.length_append, vIs_append]; exact HO2.out, HB2⟩
        case measure => simp [RowKit.intOf] <;> omega
    · have hfin : dropD (W.take j) d = dropD W d := by rw [List.take_of_length_le (by omega)]
      rw [hfin] at hown
      have f1 := HR.out.blk.frozen 1
      obtain ⟨A2, c2, hv⟩ := own_slice hown.out
      subst hv
      clear hfin
      go_wp2_with fail
      obtain ⟨r1, r2⟩ := HH.out.setW (Kp.of_below hb.out) hB hown.out
      go_end0
      exact ⟨rfl, _, _, _, _, r1, r2⟩

set_option maxRecDepth 100000 in
set_option maxHeartbeats 2000000 in
theorem refSetWhole_any (w : World) (B cb : Nat) (F : Nat → Prop) (Al : Option Addr) (cl : Nat) (Aw : Option Addr) (cw : Nat) (L : List En) (W : List Int) (d : Int) (hn : W.length ≤ 1900000000000) (hB : B ≤ w.heap.size) (H : RefAt w B cb F Al cl Aw cw L W) :
    Calls Tryz.prog 60 #[.pointer (some ⟨cb, 0, none⟩), .int .i64 d] w (RefPost w B cb F L (if W.contains d = true then W else W ++ [d]) (.tuple #[])) := by
  have h1 := refIsWhole_any w B cb F Al cl Aw cw L W d (by omega) H
  have HH := Lib.hid H
  have H1 := Lib.hid h1
  clear H h1
  cases hq : W.contains d with
  | true =>
    rw [hq] at H1
    clear hq
    go_enter Tryz.func60, Tryz.ntmps60
    go_wp2_with fail
    refine (H1.out).mono ?_
    rintro r w1 ⟨rfl, rfl⟩
    go_wp2_with fail
    go_end0
    exact ⟨rfl, _, _, _, _, HH.out, Kp.refl _ _⟩
  | false =>
    rw [hq] at H1
    clear hq
    have c1 := HH.out.c1
    have f1 := HH.out.blk.frozen 1
    have HRD : Hid (Rd (w.alloc (.cells #[.int .i64 d] 3)) 1 (some ⟨w.heap.size, 0, none⟩) 1 (vIs [d])) := rd_lit w 3 [.int .i64 d] 1 rfl
    go_enter Tryz.func60, Tryz.ntmps60
    go_wp2_with fail
    refine (H1.out).mono ?_
    rintro r w1 ⟨rfl, rfl⟩
    go_wp2_with (at_builtin; refine wpList_hold ?_)
    refine Lib.hid ?_
    refine wpList_append_rd rfl _ _ rfl elemInts rfl (own_below HH.out.wo ((Below.refl _ _).alloc (Nat.le_refl _) _)) rfl HRD.out (vIs_one _) (by unfold maxLen; omega) (by omega) (by simp; omega) ?_
    intro v2 w2 hown2 hg2 hl2
    obtain ⟨A2, c2, rfl⟩ := own_slice hown2
    have hg3 : (w.alloc (.cells #[.int .i64 d] 3)).grownBy w2 (Value.slice Aw W.length cw).ownBlock := hg2
    have hl3 : (Value.slice A2 (W.length + 1) c2).ownBlock = (Value.slice Aw W.length cw).ownBlock ∨ (Value.slice A2 (W.length + 1) c2).ownBlock = some (w.alloc (.cells #[.int .i64 d] 3)).heap.size := hl2
    have hk3 : Kp (fun k => k < w.heap.size ∧ (Value.slice Aw W.length cw).ownBlock ≠ some k) w w2 := ((Kp.refl _ w).alloc _).grown hg3 (fun k e _ q => q.2 e)
    have HP := Lib.hid (HH.out.pushW hk3 hown2 (fun k e => by
      rcases hl3 with h | h
      · exact .inl (h.symm.trans e)
      · rw [h] at e
        injection e with e
        right
        rw [← e]
        simp))
    have hat := HH.out.blk.kp hk3 ⟨HH.out.blk.lt, fun e => HH.out.dw _ e rfl⟩
    have c1' : w2.cell? ⟨cb, 1, none⟩ = some (.slice Aw W.length cw) := by rw [hat.cell]; rfl
    have f1' := hat.frozen 1
    clear hown2 hg2 hl2 hg3 hl3 hk3 hat c1 f1
    go_wp2_with fail
    go_end0
    exact ⟨rfl, _, _, _, _, HP.out.1, HP.out.2⟩


end Go.Proofs.YtoacobcbloljkaaGreatDoor
