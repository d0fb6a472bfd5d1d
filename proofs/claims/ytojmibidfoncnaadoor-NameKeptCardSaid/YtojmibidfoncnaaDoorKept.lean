/-
  The walk of NameKept: lists of components are new memory, one from another.
-/
import Derived.Test.YtojmibidfoncnaaDoorLaws02
namespace Go.Proofs.YtojmibidfoncnaaDoor
open Go.RowKit

/-- Every slot of a list is written: what is known of it behind a store. -/
theorem own_put {w : World} {base e n c g : Nat} {xs : List Value} (h : w.ownsRow base e 1 (.slice (some ⟨g, 0, none⟩) n c) n xs) (k : Nat) (hk : k < n) (u : Value) :
    (∃ v, w.cell? ⟨g, k, none⟩ = some v) ∧ w.frozen? ⟨g, k, none⟩ = false ∧ ∃ ys, (w.setCell ⟨g, k, none⟩ u).ownsRow base e 1 (.slice (some ⟨g, 0, none⟩) n c) n ys := by
  refine ⟨?_, h.frozenAt k, ?_⟩
  · have hl := h.1
    rw [h.cellAt k (by omega), List.getElem?_eq_getElem (by omega)]
    exact ⟨_, rfl⟩
  · exact ⟨_, (h.stored k u).1⟩

/-- The blocks that are to stay: what was there, and two lists. -/
def Stay (b0 b1 b2 b4 b5 : Nat) (k : Nat) : Prop := k < b0 ∨ (b1 ≤ k ∧ k < b2) ∨ (b4 ≤ k ∧ k < b5)

/-- A list that may be written and appended to. -/
def Li (b0 : Nat) (S : Nat → Prop) (w : World) (v : Value) (n : Nat) : Prop := (∃ xs, App w b0 9 1 v n xs) ∧ ∀ k, v.ownBlock = some k → k < w.heap.size ∧ ¬ S k
def Diff (v u : Value) : Prop := ∀ k, v.ownBlock = some k → u.ownBlock ≠ some k

theorem Diff.symm {v u : Value} (h : Diff v u) : Diff u v := fun k h1 h2 => h k h2 h1

theorem li_other {b0 : Nat} {S : Nat → Prop} {w w' : World} {u v v' : Value} {n : Nat} {o : Obj} (h : Li b0 S w u n) (hd : Diff v u) (hg : (w.alloc o).grownBy w' v.ownBlock)
    (hb : ∀ k, v'.ownBlock = some k → v.ownBlock = some k ∨ (w.alloc o).heap.size ≤ k) : Li b0 S w' u n ∧ Diff v' u := by
  obtain ⟨⟨xs, ha⟩, hk⟩ := h
  have hkp : Kp (fun k => v.ownBlock ≠ some k) w w' := ((Kp.refl _ w).alloc o).grown hg (fun k hr _ hne => hne hr)
  refine ⟨⟨⟨xs, ha.kp hkp (fun k hu hv => hd k hv hu)⟩, fun k hu => ⟨by have := (hk k hu).1; have := hkp.size; omega, (hk k hu).2⟩⟩, fun k hv' hu => ?_⟩
  rcases hb k hv' with h | h
  · exact hd k h hu
  · have := (hk k hu).1; simp at h; omega

theorem li_self {b0 : Nat} {S : Nat → Prop} {w w' : World} {v v' : Value} {n m : Nat} {xs : List Value} {o : Obj} (h : Li b0 S w v n) (hown : w'.ownsRow b0 9 1 v' m xs)
    (hb : ∀ k, v'.ownBlock = some k → v.ownBlock = some k ∨ (w.alloc o).heap.size ≤ k) (hS : ∀ k, w.heap.size ≤ k → ¬ S k) : Li b0 S w' v' m := by
  refine ⟨⟨xs, .inl hown⟩, fun k hk => ⟨(hown.lt k hk).2, ?_⟩⟩
  rcases hb k hk with h' | h'
  · exact (h.2 k h').2
  · exact hS k (by simp at h'; omega)

theorem kp_grow {S : Nat → Prop} {w0 w w' : World} {v : Value} {o : Obj} (h : Kp S w0 w) (hv : ∀ k, v.ownBlock = some k → ¬ S k) (hg : (w.alloc o).grownBy w' v.ownBlock) : Kp S w0 w' :=
  (h.alloc o).grown hg (fun k hr _ => hv k hr)

set_option maxRecDepth 100000 in
set_option maxHeartbeats 12000000 in
theorem nameKept_walk (s : ByteArray) (w : World) :
    Calls Tryd.prog 12 #[.string s] w fun e w' => e = .returned (.bool true) ∧ Below w.heap.size w w' := by
  have h1 := split_path s
  have h2 := target_text s
  have h4 := parent_path s
  have h3 := Lib.hid awake02
  have hl1 := Nm.splitR_len s.toList
  have hl2 := Nm.targetR_len s.toList
  have hl4 := Nm.parentR_len s.toList
  generalize Nm.splitR s.toList = r1 at *
  generalize Nm.targetR s.toList = r2 at *
  generalize Nm.parentR s.toList = r4 at *
  obtain ⟨ls, d1, e1⟩ := r1
  obtain ⟨ns, x2, d2, e2⟩ := r2
  obtain ⟨ps, x4, e4⟩ := r4
  simp only at h1 h2 h4 hl1 hl2 hl4
  have H1 := Lib.hid h1
  have H2 := Lib.hid h2
  have H4 := Lib.hid h4
  clear h1 h2 h4
  go_enter Tryd.func12, Tryd.ntmps12
  go_wp2_with fail
  refine (H1.out _).mono ?_
  rintro e w1 ⟨v1, rfl, hown1, hb1⟩
  have HO1 := Lib.hid hown1
  clear hown1
  go_wp2_with fail
  refine (H1.out _).mono ?_
  rintro e w2 ⟨v2, rfl, hown2, hb2⟩
  obtain ⟨A2, c2, rfl⟩ := own_slice hown2
  have HO2 := Lib.hid hown2
  clear hown2
  go_wp2_with fail
  refine (H2.out _).mono ?_
  rintro e w3 ⟨v3, rfl, hown3, hb3⟩
  have HO3 := Lib.hid hown3
  clear hown3
  go_wp2_with fail
  refine (H4.out _).mono ?_
  rintro e w4 ⟨A4, rfl, hr4, hf4, hb4⟩
  have HR4 := Lib.hid hr4
  have HF4 := Lib.hid hf4
  clear hr4 hf4
  go_wp2_with fail
  refine (copyTexts_any A2 _ c2 _ w4 (((Rd.of_own HO2.out).below hb3).below hb4) (by omega)).mono ?_
  rintro e w5 ⟨v5, rfl, hown5, hb5⟩
  obtain ⟨A5, c5, rfl⟩ := own_slice hown5
  have HO5 := Lib.hid hown5
  clear hown5
  -- what is known now
  have hb13 : Below w1.heap.size w1 w3 := hb2.trans (hb3.mono hb2.size)
  have hb14 := hb13.trans (hb4.mono hb13.size)
  have hb15 := hb14.trans (hb5.mono hb14.size)
  have hb24 : Below w2.heap.size w2 w4 := hb3.trans (hb4.mono hb3.size)
  have hb25 := hb24.trans (hb5.mono hb24.size)
  have hb35 := hb4.trans (hb5.mono hb4.size)
  have hb05 := hb1.trans (hb15.mono hb1.size)
  obtain ⟨S, hSdef⟩ : ∃ S, S = Stay w.heap.size w1.heap.size w2.heap.size w4.heap.size w5.heap.size := ⟨_, rfl⟩
  have hS5 : ∀ k, w5.heap.size ≤ k → ¬ S k := by
    intro k hk h
    have := hb1.size; have := hb15.size; have := hb25.size
    rw [hSdef] at h
    rcases h with h | h | h <;> omega
  have L1 : Li w.heap.size S w5 v1 ls.length := by
    refine ⟨⟨_, .inl (own_below HO1.out hb15)⟩, fun k hk => ?_⟩
    obtain ⟨q1, q2⟩ := HO1.out.lt k hk
    have := hb15.size; have := hb14.size
    refine ⟨by omega, fun h => ?_⟩
    rw [hSdef] at h
    rcases h with h | h | h <;> omega
  have L3 : Li w.heap.size S w5 v3 ns.length := by
    refine ⟨⟨_, .inl (own_base (own_below HO3.out hb35) (by have := hb1.size; have := hb2.size; omega))⟩, fun k hk => ?_⟩
    obtain ⟨q1, q2⟩ := HO3.out.lt k hk
    have := hb35.size; have := hb4.size; have := hb2.size; have := hb1.size
    refine ⟨by omega, fun h => ?_⟩
    rw [hSdef] at h
    rcases h with h | h | h <;> omega
  have L4 : Li w.heap.size S w5 (.slice A4 ps.length ps.length) ps.length := by
    refine ⟨⟨_, .inr ⟨A4, rfl, HR4.out.below hb5⟩⟩, fun k hk => ?_⟩
    cases A4 with
    | none => cases hk
    | some ad =>
      obtain rfl : ad.block = k := by injection hk
      obtain ⟨q1, q2⟩ := HF4.out ad rfl
      have := hb35.size; have := hb5.size; have := hb3.size; have := hb2.size; have := hb1.size
      refine ⟨by omega, fun h => ?_⟩
      rw [hSdef] at h
      rcases h with h | h | h <;> omega
  have D13 : Diff v1 v3 := fun k q q' => by have := (HO1.out.lt k q).2; have := (HO3.out.lt k q').1; have := hb2.size; omega
  have D14 : Diff v1 (.slice A4 ps.length ps.length) := fun k q q' => by
    cases A4 with
    | none => cases q'
    | some ad =>
      obtain rfl : ad.block = k := by injection q'
      have := (HO1.out.lt _ q).2; have := (HF4.out ad rfl).1; have := hb13.size; omega
  have D34 : Diff v3 (.slice A4 ps.length ps.length) := fun k q q' => by
    cases A4 with
    | none => cases q'
    | some ad =>
      obtain rfl : ad.block = k := by injection q'
      have := (HO3.out.lt _ q).2; have := (HF4.out ad rfl).1; omega
  have RM : Rd w5 1 A2 ls.length (txts ls) ∧ ∀ ad, A2 = some ad → S ad.block := by
    refine ⟨(Rd.of_own HO2.out).below hb25, fun ad e => ?_⟩
    subst e
    obtain ⟨q1, q2⟩ := HO2.out.lt ad.block rfl
    rw [hSdef]
    exact .inr (.inl ⟨q1, q2⟩)
  have RW : Rd w5 1 A5 ls.length (txts ls) ∧ ∀ ad, A5 = some ad → S ad.block := by
    refine ⟨Rd.of_own HO5.out, fun ad e => ?_⟩
    subst e
    obtain ⟨q1, q2⟩ := HO5.out.lt ad.block rfl
    rw [hSdef]
    exact .inr (.inr ⟨q1, q2⟩)
  have hS0 : ∀ k, k < w.heap.size → S k := fun k hk => by rw [hSdef]; exact .inl hk
  have O1 : w5.ownsRow w.heap.size 9 1 v1 ls.length (txts ls) := own_below HO1.out hb15
  have h05 := hb05.size
  have HRM := Lib.hid RM
  have HRW := Lib.hid RW
  have HS0 := Lib.hid hS0
  have HS5 := Lib.hid hS5
  have HL1 := Lib.hid L1
  have HL3 := Lib.hid L3
  have HL4 := Lib.hid L4
  have HD13 := Lib.hid D13
  have HD14 := Lib.hid D14
  have HD34 := Lib.hid D34
  have HB05 := Lib.hid hb05
  have HOO1 := Lib.hid O1
  clear RM RW hS0 hS5 L1 L3 L4 D13 D14 D34 hb05 O1 hb13 hb14 hb15 hb24 hb25 hb35 HO1 HO2 HO3 HO5 HR4 HF4 hb1 hb2 hb3 hb4 hb5 hSdef
  obtain ⟨A1, c1, rfl⟩ := own_slice HOO1.out
  obtain ⟨A3, c3, rfl⟩ : ∃ A c, v3 = .slice A ns.length c := by
    obtain ⟨xs, h | ⟨B, h, _⟩⟩ := HL3.out.1
    · exact own_slice h
    · exact ⟨_, _, h⟩
  go_wp2_with fail
  go_loopw [17] (fun i wr => ∃ k : Nat, k ≤ ls.length ∧ i = .int .i64 k ∧ (∃ ys, wr.ownsRow w.heap.size 9 1 (.slice A1 ls.length c1) ls.length ys) ∧ Kp (fun k => (Value.slice A1 ls.length c1).ownBlock ≠ some k) w5 wr) (fun i _ => ls.length - (intOf i).toNat)
  case atStart => exact ⟨0, by omega, rfl, ⟨_, HOO1.out⟩, Kp.refl _ _⟩
  case round =>
    obtain ⟨k, hk, rfl, ⟨ys, hown⟩, hkp⟩ := hrel
    by_cases hlt : k < ls.length
    · obtain ⟨g, cap, hv, _, _⟩ := hown.form (by omega)
      obtain ⟨rfl, rfl⟩ : A1 = some ⟨g, 0, none⟩ ∧ c1 = cap := by injection hv with a b c; exact ⟨a, c⟩
      obtain ⟨⟨u, hc⟩, hfz, hput⟩ := own_put hown k hlt (.string ⟨#[109, 105, 110, 101]⟩)
      have HP := Lib.hid hput
      have HK := Lib.hid hkp
      clear hput hkp hown
      go_wp2_with fail
      go_roundw
      case rel => exact ⟨k + 1, by omega, by go_num, HP.out, HK.out.setCell (p := ⟨g, k, none⟩) (fun _ hne => hne rfl) _⟩
      case measure => simp [intOf] <;> omega
    · have hkp2 : Kp S w5 wr := hkp.mono fun k hk hs hv => (HL1.out.2 k hv).2 hs
      have L1' : Li w.heap.size S wr (.slice A1 ls.length c1) ls.length := by
        obtain ⟨ys, hown⟩ := (⟨ys, hown⟩ : ∃ ys, wr.ownsRow w.heap.size 9 1 (.slice A1 ls.length c1) ls.length ys)
        exact ⟨⟨ys, .inl hown⟩, fun k hv => ⟨by have := (HL1.out.2 k hv).1; have := hkp.size; omega, (HL1.out.2 k hv).2⟩⟩
      have keep : ∀ v n, Li w.heap.size S w5 v n → Diff (.slice A1 ls.length c1) v → Li w.heap.size S wr v n := by
        rintro v n ⟨⟨xs, ha⟩, hv⟩ hd
        exact ⟨⟨xs, ha.kp hkp (fun k hk h1 => hd k h1 hk)⟩, fun k hk => ⟨by have := (hv k hk).1; have := hkp.size; omega, (hv k hk).2⟩⟩
      have L3' := keep _ _ HL3.out HD13.out
      have L4' := keep _ _ HL4.out HD14.out
      have KP := Lib.hid hkp2
      have HL1' := Lib.hid L1'
      have HL3' := Lib.hid L3'
      have HL4' := Lib.hid L4'
      have hwr5 := hkp.size
      obtain ⟨wo, rfl⟩ : ∃ wo : World, wo = wr := ⟨_, rfl⟩
      clear hkp2 L1' L3' L4' keep hkp hown HL1 HL3 HL4 HOO1
      go_wp2_with fail
      go_loopw [3, 9, 13, 18] (fun vl vn vp i wx => ∃ k : Nat, k ≤ 40 ∧ i = .int .i64 k ∧ Li w.heap.size S wx vl (ls.length + k) ∧ Li w.heap.size S wx vn (ns.length + k) ∧ Li w.heap.size S wx vp (ps.length + k) ∧ Diff vl vn ∧ Diff vl vp ∧ Diff vn vp ∧ Kp S w5 wx ∧
        Hid (0 < k → (∃ xs, wx.ownsRow w.heap.size 9 1 vn (ns.length + k) xs) ∧ ∃ xs, wx.ownsRow w.heap.size 9 1 vp (ps.length + k) xs)) (fun _ _ _ i _ => 40 - (intOf i).toNat)
      case atStart => exact ⟨0, by omega, rfl, HL1'.out, HL3'.out, HL4'.out, HD13.out, HD14.out, HD34.out, KP.out, fun h => absurd h (by omega)⟩
      case round =>
        obtain ⟨k, hk, rfl, M1, M3, M4, E13, E14, E34, hkp, hown⟩ := hrel
        by_cases hlt : k < 40
        · have hsz := hkp.size
          have happ1 := M1.1
          obtain ⟨xs1, happ1⟩ := happ1
          have HE13 := Lib.hid E13
          have HE14 := Lib.hid E14
          have HE34 := Lib.hid E34
          have HM1 := Lib.hid M1
          have HM3 := Lib.hid M3
          have HM4 := Lib.hid M4
          have HKP := Lib.hid hkp
          have HSX := Lib.hid (fun k (hk : wr.heap.size ≤ k) => HS5.out k (Nat.le_trans hsz hk))
          clear E13 E14 E34 M1 M3 M4 hkp hown
          go_upto_region 14 with (at_builtin; refine wpList_append_app rfl (.tmp 64) (.tmp 65) rfl elemTexts rfl (happ1.kp ((Kp.refl (fun _ => True) wr).alloc _) (fun _ _ => trivial)) rfl (news := [.string ⟨#[109, 111, 114, 101]⟩]) (m := 1) rfl (cell_one_new _ _ _) ?c1 (by decide) ?c2 ?c3 ?c4 ?_; (case c1 => intro u hu; simp only [List.mem_singleton] at hu; subst hu; rfl); (case c2 => unfold maxLen; omega); (case c3 => omega); (case c4 => simp; omega); intro va wa owna grna bna)
          obtain ⟨Na3, Ea3⟩ := li_other HM3.out HE13.out grna bna
          obtain ⟨Na4, Ea4⟩ := li_other HM4.out HE14.out grna bna
          have Na1 := li_self HM1.out owna bna HSX.out
          have kpa := kp_grow HKP.out (fun k hk => (HM1.out.2 k hk).2) grna
          have hsa := kpa.size
          obtain ⟨xs3, happ3⟩ := Na3.1
          have HNa1 := Lib.hid Na1
          have HNa3 := Lib.hid Na3
          have HNa4 := Lib.hid Na4
          have HEa3 := Lib.hid Ea3
          have HEa4 := Lib.hid Ea4
          have HKa := Lib.hid kpa
          have HSa := Lib.hid (fun k (hk : wa.heap.size ≤ k) => HS5.out k (Nat.le_trans hsa hk))
          clear owna grna bna Na1 Na3 Na4 Ea3 Ea4 kpa happ1 HM1 HM3 HM4 HE13 HE14 HKP HSX
          go_upto_region 15 with (at_builtin; refine wpList_append_app rfl (.tmp 67) (.tmp 68) rfl elemTexts rfl (happ3.kp ((Kp.refl (fun _ => True) wa).alloc _) (fun _ _ => trivial)) rfl (news := [.string ⟨#[109, 111, 114, 101]⟩]) (m := 1) rfl (cell_one_new _ _ _) ?c1 (by decide) ?c2 ?c3 ?c4 ?_; (case c1 => intro u hu; simp only [List.mem_singleton] at hu; subst hu; rfl); (case c2 => unfold maxLen; omega); (case c3 => omega); (case c4 => simp; omega); intro vb wb ownb grnb bnb)
          obtain ⟨Nb1, Eb1⟩ := li_other HNa1.out HEa3.out.symm grnb bnb
          obtain ⟨Nb4, Eb4⟩ := li_other HNa4.out HE34.out grnb bnb
          have Nb3 := li_self HNa3.out ownb bnb HSa.out
          have kpb := kp_grow HKa.out (fun k hk => (HNa3.out.2 k hk).2) grnb
          have hsb := kpb.size
          obtain ⟨xs4, happ4⟩ := Nb4.1
          have HNb1 := Lib.hid Nb1
          have HNb3 := Lib.hid Nb3
          have HNb4 := Lib.hid Nb4
          have HEb1 := Lib.hid Eb1
          have HEb4 := Lib.hid Eb4
          have HKb := Lib.hid kpb
          have HOb := Lib.hid ownb
          have HSb := Lib.hid (fun k (hk : wb.heap.size ≤ k) => HS5.out k (Nat.le_trans hsb hk))
          clear ownb grnb bnb Nb1 Nb3 Nb4 Eb1 Eb4 kpb happ3 HNa1 HNa3 HNa4 HEa3 HE34 HKa HSa
          go_wp2_with (at_builtin; refine wpList_append_app rfl (.tmp 70) (.tmp 71) rfl elemTexts rfl (happ4.kp ((Kp.refl (fun _ => True) wb).alloc _) (fun _ _ => trivial)) rfl (news := [.string ⟨#[109, 111, 114, 101]⟩]) (m := 1) rfl (cell_one_new _ _ _) ?c1 (by decide) ?c2 ?c3 ?c4 ?_; (case c1 => intro u hu; simp only [List.mem_singleton] at hu; subst hu; rfl); (case c2 => unfold maxLen; omega); (case c3 => omega); (case c4 => simp; omega); intro vc wc ownc grnc bnc)
          obtain ⟨Nc1, Ec1⟩ := li_other HNb1.out HEa4.out.symm grnc bnc
          obtain ⟨Nc3, Ec3⟩ := li_other HNb3.out HEb4.out.symm grnc bnc
          have Nc4 := li_self HNb4.out ownc bnc HSb.out
          have kpc := kp_grow HKb.out (fun k hk => (HNb4.out.2 k hk).2) grnc
          have ownb' := own_kp HOb.out (((Kp.refl (fun k => u13.ownBlock ≠ some k) wb).alloc _).grown grnc (fun k hr _ hne => hne hr)) (fun k hk => HEb4.out k hk)
          have HN1 := Lib.hid Nc1
          have HN3 := Lib.hid Nc3
          have HN4 := Lib.hid Nc4
          have HC1 := Lib.hid Ec1
          have HC3 := Lib.hid Ec3
          have HK := Lib.hid kpc
          have HO3 := Lib.hid ownb'
          have HO4 := Lib.hid ownc
          clear ownc grnc bnc Nc1 Nc3 Nc4 Ec1 Ec3 kpc ownb' happ4 HNb1 HNb3 HNb4
          go_roundw
          case rel => exact ⟨k + 1, by omega, by go_num, HN1.out, HN3.out, HN4.out, HEb1.out.symm, HC1.out.symm, HC3.out.symm, HK.out, fun _ => ⟨⟨_, HO3.out⟩, ⟨_, HO4.out⟩⟩⟩
          case measure => simp [intOf] <;> omega
        · obtain rfl : k = 40 := by omega
          obtain ⟨⟨xs3, o3⟩, ⟨xs4, o4⟩⟩ := hown (by omega)
          have n3 := fun k hk => (M3.2 k hk).2
          have n4 := fun k hk => (M4.2 k hk).2
          obtain ⟨N3, hN3⟩ : ∃ N, N = ns.length + 40 := ⟨_, rfl⟩
          obtain ⟨N4, hN4⟩ : ∃ N, N = ps.length + 40 := ⟨_, rfl⟩
          rw [← hN3] at o3
          rw [← hN4] at o4
          obtain ⟨B3, d3, rfl⟩ := own_slice o3
          obtain ⟨B4, d4, rfl⟩ := own_slice o4
          obtain ⟨B1, d1', rfl⟩ : ∃ A c, u3 = .slice A (ls.length + 40) c := by
            obtain ⟨xs, h | ⟨B, h, _⟩⟩ := M1.1
            · exact own_slice h
            · exact ⟨_, _, h⟩
          have HD := Lib.hid E34
          have HK := Lib.hid hkp
          have HN3 := Lib.hid n3
          have HN4 := Lib.hid n4
          have HO3 := Lib.hid o3
          have HO4 := Lib.hid o4
          have hb3 : N3 ≤ 2000 := by omega
          have hb4 : N4 ≤ 2000 := by omega
          obtain ⟨wp, rfl⟩ : ∃ wo : World, wo = wr := ⟨_, rfl⟩
          clear E13 E14 E34 M1 M3 M4 hkp hown n3 n4 o3 o4 hN3 hN4 HD13 HD14 HD34 HL1' HL3' HL4' KP
          go_wp2_with fail
          go_loopw [19] (fun i wx => ∃ k : Nat, k ≤ N3 ∧ i = .int .i64 k ∧ (∃ ys, wx.ownsRow w.heap.size 9 1 (.slice B3 N3 d3) N3 ys) ∧ Kp (fun k => (Value.slice B3 N3 d3).ownBlock ≠ some k) wp wx) (fun i _ => N3 - (intOf i).toNat)
          case atStart => exact ⟨0, by omega, rfl, ⟨_, HO3.out⟩, Kp.refl _ _⟩
          case round =>
            obtain ⟨k, hk, rfl, ⟨ys, hown⟩, hkp⟩ := hrel
            by_cases hlt : k < N3
            · obtain ⟨g, cap, hv, _, _⟩ := hown.form (by omega)
              obtain ⟨rfl, rfl⟩ : B3 = some ⟨g, 0, none⟩ ∧ d3 = cap := by injection hv with a b c; exact ⟨a, c⟩
              obtain ⟨⟨u, hc⟩, hfz, hput⟩ := own_put hown k hlt (.string ⟨#[120]⟩)
              have HP := Lib.hid hput
              have HK' := Lib.hid hkp
              clear hput hkp hown
              go_wp2_with fail
              go_roundw
              case rel => exact ⟨k + 1, by omega, by go_num, HP.out, HK'.out.setCell (p := ⟨g, k, none⟩) (fun _ hne => hne rfl) _⟩
              case measure => simp [intOf] <;> omega
            · have hkp2 : Kp S w5 wr := HK.out.trans (hkp.mono fun k _ hs hv => HN3.out k hv hs)
              have o4 := own_kp HO4.out hkp (fun k hk h => HD.out k h hk)
              have KP := Lib.hid hkp2
              have HO4' := Lib.hid o4
              obtain ⟨wq, rfl⟩ : ∃ wo : World, wo = wr := ⟨_, rfl⟩
              clear hkp hown hkp2 o4 HO3 HO4 HN3 HD HK
              go_wp2_with fail
              go_loopw [20] (fun i wx => ∃ k : Nat, k ≤ N4 ∧ i = .int .i64 k ∧ (∃ ys, wx.ownsRow w.heap.size 9 1 (.slice B4 N4 d4) N4 ys) ∧ Kp (fun k => (Value.slice B4 N4 d4).ownBlock ≠ some k) wq wx) (fun i _ => N4 - (intOf i).toNat)
              case atStart => exact ⟨0, by omega, rfl, ⟨_, HO4'.out⟩, Kp.refl _ _⟩
              case round =>
                obtain ⟨k, hk, rfl, ⟨ys, hown⟩, hkp⟩ := hrel
                by_cases hlt : k < N4
                · obtain ⟨g, cap, hv, _, _⟩ := hown.form (by omega)
                  obtain ⟨rfl, rfl⟩ : B4 = some ⟨g, 0, none⟩ ∧ d4 = cap := by injection hv with a b c; exact ⟨a, c⟩
                  obtain ⟨⟨u, hc⟩, hfz, hput⟩ := own_put hown k hlt (.string ⟨#[121]⟩)
                  have HP := Lib.hid hput
                  have HK' := Lib.hid hkp
                  clear hput hkp hown
                  go_wp2_with fail
                  go_roundw
                  case rel => exact ⟨k + 1, by omega, by go_num, HP.out, HK'.out.setCell (p := ⟨g, k, none⟩) (fun _ hne => hne rfl) _⟩
                  case measure => simp [intOf] <;> omega
                · have hkp2 : Kp S w5 wr := KP.out.trans (hkp.mono fun k _ hs hv => HN4.out k hv hs)
                  have rm := HRM.out.1.kp hkp2 HRM.out.2
                  have rw_ := HRW.out.1.kp hkp2 HRW.out.2
                  have hbz : Below w.heap.size w wr := HB05.out.trans (hkp2.to_below h05 HS0.out)
                  have GM := Lib.hid rm
                  have GW := Lib.hid rw_
                  have HB := Lib.hid hbz
                  clear hkp hown hkp2 rm rw_ hbz
                  go_wp2_with fail
                  refine (H1.out _).mono ?_
                  rintro e w6 ⟨v6, rfl, hown6, hb6⟩
                  obtain ⟨A6, c6, rfl⟩ := own_slice hown6
                  have G6 := Lib.hid hown6
                  clear hown6
                  go_wp2_with fail
                  refine (same_yes A2 A5 _ _ c2 c5 _ _ w6 (GM.out.below hb6) (GW.out.below hb6) (by omega) rfl).mono ?_
                  rintro e w7 ⟨rfl, hb7⟩
                  go_wp2_with fail
                  refine (same_yes A6 A5 _ _ c6 c5 _ _ w7 ((Rd.of_own G6.out).below hb7) ((GW.out.below hb6).below hb7) (by omega) rfl).mono ?_
                  rintro e w8 ⟨rfl, hb8⟩
                  go_wp2_with fail
                  refine (h3.out _).mono ?_
                  rintro e w9 ⟨rfl, hb9⟩
                  go_wp2_with fail
                  go_ret
                  have k1 := HB.out.trans (hb6.mono HB.out.size)
                  have k2 := k1.trans (hb7.mono k1.size)
                  have k3 := k2.trans (hb8.mono k2.size)
                  exact ⟨rfl, k3.trans (hb9.mono k3.size)⟩
end Go.Proofs.YtojmibidfoncnaaDoor
