/-
  The walk of the law WalkFresh.
-/
import Derived.Test.YtoacobcbloljkaaGreatDoorFilled
import Derived.Test.YtoacobcbloljkaaGreatDoorWalkPure2
import Derived.Test.YtoacobcbloljkaaGreatDoorAwake14
import Derived.Test.YtoacobcbloljkaaGreatDoorRegF
import Derived.BigRegion
namespace Go.Proofs.YtoacobcbloljkaaGreatDoor
open Go.RowKit

theorem filled_nil (w : World) : Calls Tryz.prog 23 #[.slice none 0 0] w fun r w' => ∃ (M : TM) (c e h : Nat), r = .returned (.tuple #[.pointer (some ⟨c, 0, none⟩), .pointer (some ⟨M.t, 0, none⟩), .bool true]) ∧ Filled w M Tr.t0 c e h fill0 w' := by
  have h := filled_any w none 0 0 [] (Rd.empty _ _ _) (by omega)
  have e1 : Tr.run Tr.t0 [] = Tr.t0 := rfl
  have e2 : fillS (Tr.dumpR Tr.t0.L) = fill0 := by simp [Tr.t0, Tr.dumpR, Tr.sorted, fillS]
  rw [e1, e2] at h
  exact h

theorem At.eq_ {w : World} {g : Nat} {t : TypeId} {cs ds : List Value} (h : At w g t cs) (e : cs = ds) : At w g t ds := e ▸ h
theorem fresh_cells {w3 : World} {a b g : Nat} (hab : a ≠ b) (hag : a ≠ g) (hbg : b ≠ g) {k x0 x1 x2 x3 x4 x5 x6 y0 y1 y2 y3 y4 y5 y6 z0 z1 z2 z3 z4 z5 z6 : Value} (A : At w3 a 36 [x0, x1, x2, x3, x4, x5, x6]) (B : At w3 b 36 [y0, y1, y2, y3, y4, y5, y6]) (G : At w3 g 36 [z0, z1, z2, z3, z4, z5, z6]) :
    At (((((((((((w3.setCell ⟨a, 0, none⟩ (.int .i64 1)).setCell ⟨a, 1, none⟩ k).setCell ⟨b, 0, none⟩ (.int .i64 1)).setCell ⟨b, 1, none⟩ k).setCell ⟨g, 0, none⟩ (.int .i64 1)).setCell ⟨g, 1, none⟩ k).setCell ⟨b, 2, none⟩ (.bool true)).setCell ⟨b, 3, none⟩ (.int .i64 0)).setCell ⟨b, 4, none⟩ (.int .i64 0)).setCell ⟨b, 5, none⟩ (.int .i64 0)).setCell ⟨b, 6, none⟩ (.string ⟨#[]⟩)).drew a 36 [.int .i64 1, k, x2, x3, x4, x5, x6] ∧ At (((((((((((w3.setCell ⟨a, 0, none⟩ (.int .i64 1)).setCell ⟨a, 1, none⟩ k).setCell ⟨b, 0, none⟩ (.int .i64 1)).setCell ⟨b, 1, none⟩ k).setCell ⟨g, 0, none⟩ (.int .i64 1)).setCell ⟨g, 1, none⟩ k).setCell ⟨b, 2, none⟩ (.bool true)).setCell ⟨b, 3, none⟩ (.int .i64 0)).setCell ⟨b, 4, none⟩ (.int .i64 0)).setCell ⟨b, 5, none⟩ (.int .i64 0)).setCell ⟨b, 6, none⟩ (.string ⟨#[]⟩)).drew b 36 [.int .i64 1, k, .bool true, .int .i64 0, .int .i64 0, .int .i64 0, .string ⟨#[]⟩] ∧ At (((((((((((w3.setCell ⟨a, 0, none⟩ (.int .i64 1)).setCell ⟨a, 1, none⟩ k).setCell ⟨b, 0, none⟩ (.int .i64 1)).setCell ⟨b, 1, none⟩ k).setCell ⟨g, 0, none⟩ (.int .i64 1)).setCell ⟨g, 1, none⟩ k).setCell ⟨b, 2, none⟩ (.bool true)).setCell ⟨b, 3, none⟩ (.int .i64 0)).setCell ⟨b, 4, none⟩ (.int .i64 0)).setCell ⟨b, 5, none⟩ (.int .i64 0)).setCell ⟨b, 6, none⟩ (.string ⟨#[]⟩)).drew g 36 [.int .i64 1, k, z2, z3, z4, z5, z6] ∧ Kp (fun j => j ≠ a ∧ j ≠ b ∧ j ≠ g) w3 (((((((((((w3.setCell ⟨a, 0, none⟩ (.int .i64 1)).setCell ⟨a, 1, none⟩ k).setCell ⟨b, 0, none⟩ (.int .i64 1)).setCell ⟨b, 1, none⟩ k).setCell ⟨g, 0, none⟩ (.int .i64 1)).setCell ⟨g, 1, none⟩ k).setCell ⟨b, 2, none⟩ (.bool true)).setCell ⟨b, 3, none⟩ (.int .i64 0)).setCell ⟨b, 4, none⟩ (.int .i64 0)).setCell ⟨b, 5, none⟩ (.int .i64 0)).setCell ⟨b, 6, none⟩ (.string ⟨#[]⟩)).drew := by
  have q0 := Kp.refl (fun j => j ≠ a ∧ j ≠ b ∧ j ≠ g) w3
  have A0 := A.setCell 0 (.int .i64 1)
  have B0 := B.setOther 0 (.int .i64 1) hab.symm
  have G0 := G.setOther 0 (.int .i64 1) hag.symm
  have q1 := q0.setCell (p := ⟨a, 0, none⟩) (fun _ q => by simp at q) (.int .i64 1)
  have A1 := A0.setCell 1 k
  have B1 := B0.setOther 1 k hab.symm
  have G1 := G0.setOther 1 k hag.symm
  have q2 := q1.setCell (p := ⟨a, 1, none⟩) (fun _ q => by simp at q) k
  have A2 := A1.setOther 0 (.int .i64 1) hab
  have B2 := B1.setCell 0 (.int .i64 1)
  have G2 := G1.setOther 0 (.int .i64 1) hbg.symm
  have q3 := q2.setCell (p := ⟨b, 0, none⟩) (fun _ q => by simp at q) (.int .i64 1)
  have A3 := A2.setOther 1 k hab
  have B3 := B2.setCell 1 k
  have G3 := G2.setOther 1 k hbg.symm
  have q4 := q3.setCell (p := ⟨b, 1, none⟩) (fun _ q => by simp at q) k
  have A4 := A3.setOther 0 (.int .i64 1) hag
  have B4 := B3.setOther 0 (.int .i64 1) hbg
  have G4 := G3.setCell 0 (.int .i64 1)
  have q5 := q4.setCell (p := ⟨g, 0, none⟩) (fun _ q => by simp at q) (.int .i64 1)
  have A5 := A4.setOther 1 k hag
  have B5 := B4.setOther 1 k hbg
  have G5 := G4.setCell 1 k
  have q6 := q5.setCell (p := ⟨g, 1, none⟩) (fun _ q => by simp at q) k
  have A6 := A5.setOther 2 (.bool true) hab
  have B6 := B5.setCell 2 (.bool true)
  have G6 := G5.setOther 2 (.bool true) hbg.symm
  have q7 := q6.setCell (p := ⟨b, 2, none⟩) (fun _ q => by simp at q) (.bool true)
  have A7 := A6.setOther 3 (.int .i64 0) hab
  have B7 := B6.setCell 3 (.int .i64 0)
  have G7 := G6.setOther 3 (.int .i64 0) hbg.symm
  have q8 := q7.setCell (p := ⟨b, 3, none⟩) (fun _ q => by simp at q) (.int .i64 0)
  have A8 := A7.setOther 4 (.int .i64 0) hab
  have B8 := B7.setCell 4 (.int .i64 0)
  have G8 := G7.setOther 4 (.int .i64 0) hbg.symm
  have q9 := q8.setCell (p := ⟨b, 4, none⟩) (fun _ q => by simp at q) (.int .i64 0)
  have A9 := A8.setOther 5 (.int .i64 0) hab
  have B9 := B8.setCell 5 (.int .i64 0)
  have G9 := G8.setOther 5 (.int .i64 0) hbg.symm
  have q10 := q9.setCell (p := ⟨b, 5, none⟩) (fun _ q => by simp at q) (.int .i64 0)
  have A10 := A9.setOther 6 (.string ⟨#[]⟩) hab
  have B10 := B9.setCell 6 (.string ⟨#[]⟩)
  have G10 := G9.setOther 6 (.string ⟨#[]⟩) hbg.symm
  have q11 := q10.setCell (p := ⟨b, 6, none⟩) (fun _ q => by simp at q) (.string ⟨#[]⟩)
  exact ⟨At.eq_ (At.drew A10) rfl, At.eq_ (At.drew B10) rfl, At.eq_ (At.drew G10) rfl, q11.drew⟩

set_option maxRecDepth 100000 in
set_option maxHeartbeats 4000000 in
theorem walkFresh_walk (xe xf xg : En) (links : Int) (hl0 : -9223372036854775808 ≤ links) (hl1 : links ≤ 9223372036854775807) (w : World) :
    Calls Tryz.prog 7 #[vEn xe, vEn xf, vEn xg, .int .i64 links] w fun e w' => e = .returned (.bool true) ∧ Below w.heap.size w w' := by
  obtain ⟨⟨ed, en⟩, eg, ei, ek, em, et⟩ := xe
  obtain ⟨⟨fd, fn⟩, fg, fi, fk, fm, ft⟩ := xf
  obtain ⟨⟨gd, gn⟩, gg, gi, gk, gm, gt⟩ := xg
  have hck := fun V => check_any ⟨en.toArray⟩ V
  simp only [toList_mk] at hck
  have hfi := fun V => filled_nil V
  have HCK := Lib.hid hck
  have HFI := Lib.hid hfi
  clear hck hfi
  unfold vEn
  simp only [txt]
  go_enter Tryz.func7, Tryz.ntmps7
  go_wp2_with fail
  refine (HFI.out _).mono ?_
  rintro r w1 ⟨M, c, e, h, rfl, hf1⟩
  have hsz := hf1.g.bl.size
  simp only [World.size_alloc] at hsz
  have AE : Hid (At w1 w.heap.size 36 (cEn ((ed, en), eg, ei, ek, em, et))) := Lib.hid ((((At.new w 36 (cEn ((ed, en), eg, ei, ek, em, et))).alloc _).alloc _).below hf1.g.bl)
  have AF : Hid (At w1 (w.heap.size + 1) 36 (cEn ((fd, fn), fg, fi, fk, fm, ft))) := Lib.hid (((At.new_ (w.alloc _) 36 (cEn ((fd, fn), fg, fi, fk, fm, ft)) (by simp)).alloc _).below hf1.g.bl)
  have AG : Hid (At w1 (w.heap.size + 1 + 1) 36 (cEn ((gd, gn), gg, gi, gk, gm, gt))) := Lib.hid ((At.new_ ((w.alloc _).alloc _) 36 (cEn ((gd, gn), gg, gi, gk, gm, gt)) (by simp)).below hf1.g.bl)
  have HC1 := Lib.hid hf1.ca
  have HCW : Hid (w.heap.size + 3 ≤ c ∧ w.heap.size + 3 ≤ e ∧ w.heap.size + 3 ≤ h) := Lib.hid (by have := hf1.hc; simp only [World.size_alloc] at this; omega)
  have HB1 : Hid (Below w.heap.size w w1) := Lib.hid (((((Below.refl _ w).alloc (Nat.le_refl _) _).alloc (by simp) _).alloc (by simp; omega) _).trans (hf1.g.bl.mono (by simp; omega)))
  simp only [fill0] at HC1
  clear hf1
  obtain ⟨x0, x1, x2, x3, x4, x5, x6⟩ := en_cells AE.out
  simp only [txt] at x0 x1 x2 x3 x4 x5 x6
  by_cases hce : Nm.checkE en = 0
  · rw [hce] at HCK
    have HCE := Lib.hid hce
    clear hce
    go_wp2_with fail
    refine (HCK.out _).mono ?_
    rintro r w2 ⟨rfl, hb2⟩
    have AE2 := Lib.hid (AE.out.below hb2)
    have AF2 := Lib.hid (AF.out.below hb2)
    have AG2 := Lib.hid (AG.out.below hb2)
    have HC2 := Lib.hid (HC1.out.below hb2)
    have HB2 := Lib.hid (HB1.out.trans (hb2.mono HB1.out.size))
    clear hb2 AE AF AG HC1 HB1 x0 x1 x2 x3 x4 x5 x6
    obtain ⟨x0, x1, x2, x3, x4, x5, x6⟩ := en_cells AE2.out
    simp only [txt] at x0 x1 x2 x3 x4 x5 x6
    go_upto_region 5 with fail
    have AK : Hid (At (w2.alloc (.cells #[.int .i64 1, .string ⟨en.toArray⟩] 32)) w2.heap.size 32 [.int .i64 1, .string ⟨en.toArray⟩]) := Lib.hid (At.new w2 32 [.int .i64 1, .string ⟨en.toArray⟩])
    have AE3 := Lib.hid (AE2.out.alloc (.cells #[.int .i64 1, .string ⟨en.toArray⟩] 32))
    have AF3 := Lib.hid (AF2.out.alloc (.cells #[.int .i64 1, .string ⟨en.toArray⟩] 32))
    have AG3 := Lib.hid (AG2.out.alloc (.cells #[.int .i64 1, .string ⟨en.toArray⟩] 32))
    have HC3 := Lib.hid (HC2.out.alloc (.cells #[.int .i64 1, .string ⟨en.toArray⟩] 32))
    have HKC : Hid (w2.heap.size ≠ c ∧ w2.heap.size ≠ e) := Lib.hid (by have h1 := HC2.out.c_lt; have h2 := HC2.out.me.lt; omega)
    have HB3 := Lib.hid (HB2.out.alloc HB2.out.size (.cells #[.int .i64 1, .string ⟨en.toArray⟩] 32))
    have hlk : w.heap.size + 3 ≤ w2.heap.size := by have := AG2.out.lt; omega
    obtain ⟨w3, hw3⟩ : ∃ w3, w2.alloc (.cells #[.int .i64 1, .string ⟨en.toArray⟩] 32) = w3 := ⟨_, rfl⟩
    rw [hw3] at AK AE3 AF3 AG3 HC3 HB3 ⊢
    clear hw3 AE2 AF2 AG2 HC2 HB2 x0 x1 x2 x3 x4 x5 x6
    obtain ⟨x0, x1, x2, x3, x4, x5, x6⟩ := en_cells AE3.out
    obtain ⟨y0, y1, y2, y3, y4, y5, y6⟩ := en_cells AF3.out
    obtain ⟨z0, z1, z2, z3, z4, z5, z6⟩ := en_cells AG3.out
    simp only [txt] at x0 x1 x2 x3 x4 x5 x6 y0 y1 y2 y3 y4 y5 y6 z0 z1 z2 z3 z4 z5 z6
    have k0 : w3.cell? ⟨w2.heap.size, 0, none⟩ = some (.int .i64 1) := AK.out.cell 0
    have k1 : w3.cell? ⟨w2.heap.size, 1, none⟩ = some (.string ⟨en.toArray⟩) := AK.out.cell 1
    have f1 : ∀ k, w3.frozen? ⟨w.heap.size, k, none⟩ = false := fun k => AE3.out.frozen k
    have f2 : ∀ k, w3.frozen? ⟨w.heap.size + 1, k, none⟩ = false := fun k => AF3.out.frozen k
    have f3 : ∀ k, w3.frozen? ⟨w.heap.size + 1 + 1, k, none⟩ = false := fun k => AG3.out.frozen k
    have l1 := AE3.out.lt
    have l2 := AF3.out.lt
    have l3 := AG3.out.lt
    have l4 := AK.out.lt
    have n1 : w2.heap.size ≠ w.heap.size := by omega
    have n2 : w2.heap.size ≠ w.heap.size + 1 := by omega
    have n3 : w2.heap.size ≠ w.heap.size + 1 + 1 := by omega
    go_region
    clear x0 x1 x2 x3 x4 x5 x6 y0 y1 z0 z1 z2 z3 z4 z5 z6 k0 k1
    go_upto_region 8 with fail
    generalize hw4 : World.drew _ = w4
    have hcells := fresh_cells (a := w.heap.size) (b := w.heap.size + 1) (g := w.heap.size + 1 + 1) (k := .string ⟨en.toArray⟩) (by omega) (by omega) (by omega) AE3.out AF3.out AG3.out
    rw [hw4] at hcells
    have AE4 : Hid (At w4 w.heap.size 36 (cEn ((1, en), eg, ei, ek, em, et))) := Lib.hid hcells.1
    have AF4 : Hid (At w4 (w.heap.size + 1) 36 (cEn ((1, en), true, 0, 0, 0, []))) := Lib.hid hcells.2.1
    have AG4 : Hid (At w4 (w.heap.size + 1 + 1) 36 (cEn ((1, en), gg, gi, gk, gm, gt))) := Lib.hid hcells.2.2.1
    have hkp : Kp (fun k => k < w.heap.size ∨ w.heap.size + 3 ≤ k) w3 w4 := hcells.2.2.2.mono fun k _ q => by omega
    clear hcells
    have AK4 : Hid (At w4 w2.heap.size 32 [.int .i64 1, .string ⟨en.toArray⟩]) := Lib.hid (AK.out.kp hkp (by omega))
    have HC4 := Lib.hid (HC3.out.kp hkp (by have := HCW.out; omega) (by have := HCW.out; omega) (by have := HCW.out; omega))
    have HB4 := Lib.hid (HB3.out.trans (hkp.to_below HB3.out.size (fun k hk => .inl hk)))
    clear hw4 hkp AE3 AF3 AG3 AK HC3 HB3 f1 f2 f3 l1 l2 l3 l4 n1 n2 n3 y2 y3 y4 y5 y6
    have hnn : en ≠ [] := (Wk.checkE_fine HCE.out).2.1
    have hput := putN_any w4 c e h [] (alPut [] 1 true) 0 ((1, en), gg, gi, gk, gm, gt) hnn HC4.out (by omega) (by omega)
    simp only [vEn, txt] at hput
    have HPU := Lib.hid hput
    obtain ⟨z0, z1, z2, z3, z4, z5, z6⟩ := en_cells AG4.out
    simp only [txt] at z0 z1 z2 z3 z4 z5 z6
    clear hput hnn
    go_wp2_with fail
    refine HPU.out.mono ?_
    rintro r w5 ⟨rfl, hca5, hk5⟩
    have hs4 := AG4.out.lt
    have AE5 := Lib.hid (AE4.out.kp hk5 (by have := HCW.out; omega))
    have AF5 := Lib.hid (AF4.out.kp hk5 (by have := HCW.out; omega))
    have AG5 := Lib.hid (AG4.out.kp hk5 (by have := HCW.out; omega))
    have hkc : ∀ k, (k < w.heap.size + 3) → k ≠ c ∧ k ≠ e := fun k hk => by have := HCW.out; omega
    have HB5 := Lib.hid (HB4.out.trans (hk5.to_below HB4.out.size (fun k hk => hkc k (by omega))))
    have AK5 := Lib.hid (AK4.out.kp hk5 ⟨fun q => HKC.out.1 q, fun q => HKC.out.2 q⟩)
    have HC5 := Lib.hid hca5
    clear hca5 hk5 hs4 hkc HPU AE4 AF4 AG4 AK4 HC4 HB4 z0 z1 z2 z3 z4 z5 z6
    obtain ⟨l, hl⟩ : ∃ l : List (Key × (En × Int)), alPut [] ((1, en) : Key) ((((1, en), gg, gi, gk, gm, gt) : En), (0 : Int) + 1) = l := ⟨_, rfl⟩
    have hk1 : knownOf [((1, en), true, 0, 0, 0, []), ((1, en), eg, ei, ek, em, et)] l (alPut [] 1 true) (1, en) = some ((1, en), true, 0, 0, 0, []) := by simp [knownOf, firstOf]
    have hk2 : knownOf [((1, en), eg, ei, ek, em, et), ((1, en), true, 0, 0, 0, [])] l (alPut [] 1 true) (1, en) = some ((1, en), eg, ei, ek, em, et) := by simp [knownOf, firstOf]
    have hk3 : knownOf [] l (alPut [] 1 true) (1, en) = some ((1, en), gg, gi, gk, gm, gt) := by simp [knownOf, firstOf, ← hl, alPut, alGet]
    change Hid (CacheAt w5 c e h (alPut [] ((1, en) : Key) ((((1, en), gg, gi, gk, gm, gt) : En), (0 : Int) + 1)) (alPut [] 1 true) (0 + 1)) at HC5
    rw [hl] at HC5
    have hp : ((⟨#[47]⟩ : ByteArray) ++ ⟨en.toArray⟩).toList = 47 :: en := by rw [app_list, toList_mk]; simp [ByteArray.toList_eq]
    have hw := fun V A n cp fresh hn h1 H => walk_any V A n cp fresh ((⟨#[47]⟩ : ByteArray) ++ ⟨en.toArray⟩) false links c e h l (alPut [] 1 true) (0 + 1) hn hl0 hl1 h1 H
    simp only [hp] at hw
    generalize (min (max links 0) 8).toNat = lk at hw
    have hr1 := Wk.walk_one _ HCE.out lk hk1
    have hr2 := Wk.walk_one _ HCE.out lk hk2
    have hr3 := Wk.walk_one _ HCE.out lk hk3
    simp only at hr1 hr2 hr3
    have ho1 : ∃ (er : Int) (nd : Nd), Wk.walk (knownOf [((1, en), eg, ei, ek, em, et), ((1, en), true, 0, 0, 0, [])] l (alPut [] 1 true)) (47 :: en) false lk = (false, (0, []), er, nd, [(1, en)]) ∧ ((eg = true ∧ er = 40) ∨ (eg = false ∧ er = 0 ∧ nd = (ei, ek, em, et))) := by
      rw [hr2]
      cases eg with
      | true => exact ⟨40, Wk.noNd, rfl, .inl ⟨rfl, rfl⟩⟩
      | false => exact ⟨0, (ei, ek, em, et), rfl, .inr ⟨rfl, rfl, rfl⟩⟩
    have ho2 : ∃ (er : Int) (nd : Nd), Wk.walk (knownOf [] l (alPut [] 1 true)) (47 :: en) false lk = (false, (0, []), er, nd, [(1, en)]) ∧ ((gg = true ∧ er = 40) ∨ (gg = false ∧ er = 0 ∧ nd = (gi, gk, gm, gt))) := by
      rw [hr3]
      cases gg with
      | true => exact ⟨40, Wk.noNd, rfl, .inl ⟨rfl, rfl⟩⟩
      | false => exact ⟨0, (gi, gk, gm, gt), rfl, .inr ⟨rfl, rfl, rfl⟩⟩
    obtain ⟨er1, ⟨ai, ak, am, at4⟩, hq1, hf1⟩ := ho1
    obtain ⟨er2, ⟨bi, bk, bm, bt⟩, hq2, hf2⟩ := ho2
    have h1 := fun V A cp hr H => hw V A 2 cp [((1, en), true, 0, 0, 0, []), ((1, en), eg, ei, ek, em, et)] (by omega) hr H
    have h2 := fun V A cp hr H => hw V A 2 cp [((1, en), eg, ei, ek, em, et), ((1, en), true, 0, 0, 0, [])] (by omega) hr H
    have h3 := fun V H => hw V none 0 0 [] (by omega) (Rd.empty _ _ _) H
    rw [if_pos trivial] at hr1
    change _ = ((false, (0, []), 40, (0, 0, 0, []), [(1, en)]) : Wk.Out) at hr1
    rw [hr1] at h1
    rw [hq1] at h2
    rw [hq2] at h3
    have H1 := Lib.hid h1
    have H2 := Lib.hid h2
    have H3 := Lib.hid h3
    have HF1 := Lib.hid hf1
    have HF2 := Lib.hid hf2
    clear h1 h2 h3 hr1 hr2 hr3 hq1 hq2 hw hk1 hk2 hk3 hl hf1 hf2
    obtain ⟨x0, x1, x2, x3, x4, x5, x6⟩ := en_cells AE5.out
    obtain ⟨y0, y1, y2, y3, y4, y5, y6⟩ := en_cells AF5.out
    simp only [txt] at x0 x1 x2 x3 x4 x5 x6 y0 y1 y2 y3 y4 y5 y6
    have k1 : w5.cell? ⟨w2.heap.size, 1, none⟩ = some (.string ⟨en.toArray⟩) := AK5.out.cell 1
    have l1 := AE5.out.lt
    have l2 := AF5.out.lt
    have l3 := AK5.out.lt
    have hln : ¬ 9223372036854775807 < 1 + en.length := by have := (Wk.checkE_fine HCE.out).1; omega
    go_wp2_with fail
    clear x0 x1 x2 x3 x4 x5 x6 y0 y1 y2 y3 y4 y5 y6 k1 l1 l2 l3
    have hbl : Below w5.heap.size w5 (w5.alloc (.cells #[.int .i64 1, .string ⟨en.toArray⟩, .bool true, .int .i64 0, .int .i64 0, .int .i64 0, .string ⟨#[]⟩, .int .i64 1, .string ⟨en.toArray⟩, .bool eg, .int .i64 ei, .int .i64 ek, .int .i64 em, .string ⟨et.toArray⟩] 36)) := (Below.refl _ _).alloc (Nat.le_refl _) _
    refine (H1.out _ _ _ (rd_new w5 36 7 2 [.int .i64 1, .string ⟨en.toArray⟩, .bool true, .int .i64 0, .int .i64 0, .int .i64 0, .string ⟨#[]⟩, .int .i64 1, .string ⟨en.toArray⟩, .bool eg, .int .i64 ei, .int .i64 ek, .int .i64 em, .string ⟨et.toArray⟩] rfl) (HC5.out.below hbl)).mono ?_
    rintro r w6 ⟨v6, rfl, hown, hb⟩
    obtain ⟨A6, c6, rfl⟩ := own_slice hown
    simp only [vOut, outCells, txt, List.length_singleton] at hown ⊢
    have hbb : Below w5.heap.size w5 w6 := hbl.trans (hb.mono hbl.size)
    clear hown hbl hb H1
    go_upto_region 10 with fail
    have hbo : Below w6.heap.size w6 (w6.alloc (.cells #[.bool false, .int .i64 0, .string ⟨#[]⟩, .int .i64 40, .int .i64 0, .int .i64 0, .int .i64 0, .string ⟨#[]⟩, .slice A6 1 c6] 40)) := (Below.refl _ _).alloc (Nat.le_refl _) _
    have AO1 : Hid (At (w6.alloc (.cells #[.bool false, .int .i64 0, .string ⟨#[]⟩, .int .i64 40, .int .i64 0, .int .i64 0, .int .i64 0, .string ⟨#[]⟩, .slice A6 1 c6] 40)) w6.heap.size 40 (outCells (false, (0, []), 40, (0, 0, 0, []), [(1, en)]) (.slice A6 1 c6))) := Lib.hid (At.new w6 40 (outCells (false, (0, []), 40, (0, 0, 0, []), [(1, en)]) (.slice A6 1 c6)))
    have hb2 : Below w5.heap.size w5 (w6.alloc (.cells #[.bool false, .int .i64 0, .string ⟨#[]⟩, .int .i64 40, .int .i64 0, .int .i64 0, .int .i64 0, .string ⟨#[]⟩, .slice A6 1 c6] 40)) := hbb.trans (hbo.mono hbb.size)
    have AE7 := Lib.hid (AE5.out.below hb2)
    have AF7 := Lib.hid (AF5.out.below hb2)
    have AG7 := Lib.hid (AG5.out.below hb2)
    have AK7 := Lib.hid (AK5.out.below hb2)
    have HC7 := Lib.hid (HC5.out.below hb2)
    have HB7 := Lib.hid (HB5.out.trans (hb2.mono HB5.out.size))
    obtain ⟨w7, hw7⟩ : ∃ w7, w6.alloc (.cells #[.bool false, .int .i64 0, .string ⟨#[]⟩, .int .i64 40, .int .i64 0, .int .i64 0, .int .i64 0, .string ⟨#[]⟩, .slice A6 1 c6] 40) = w7 := ⟨_, rfl⟩
    rw [hw7] at  AO1 AE7 AF7 AG7 AK7 HC7 HB7 ⊢
    clear hw7 hb2 hbo hbb AE5 AF5 AG5 AK5 HC5 HB5
    obtain ⟨x0, x1, x2, x3, x4, x5, x6⟩ := en_cells AE7.out
    obtain ⟨y0, y1, y2, y3, y4, y5, y6⟩ := en_cells AF7.out
    simp only [txt] at x0 x1 x2 x3 x4 x5 x6 y0 y1 y2 y3 y4 y5 y6
    have k1 : w7.cell? ⟨w2.heap.size, 1, none⟩ = some (.string ⟨en.toArray⟩) := AK7.out.cell 1
    have l1 := AE7.out.lt
    have l2 := AF7.out.lt
    have l3 := AK7.out.lt
    go_wp2_with fail
    clear x0 x1 x2 x3 x4 x5 x6 y0 y1 y2 y3 y4 y5 y6 k1 l1 l2 l3
    have hbl : Below w7.heap.size w7 (w7.alloc (.cells #[.int .i64 1, .string ⟨en.toArray⟩, .bool eg, .int .i64 ei, .int .i64 ek, .int .i64 em, .string ⟨et.toArray⟩, .int .i64 1, .string ⟨en.toArray⟩, .bool true, .int .i64 0, .int .i64 0, .int .i64 0, .string ⟨#[]⟩] 36)) := (Below.refl _ _).alloc (Nat.le_refl _) _
    refine (H2.out _ _ _ (rd_new w7 36 7 2 [.int .i64 1, .string ⟨en.toArray⟩, .bool eg, .int .i64 ei, .int .i64 ek, .int .i64 em, .string ⟨et.toArray⟩, .int .i64 1, .string ⟨en.toArray⟩, .bool true, .int .i64 0, .int .i64 0, .int .i64 0, .string ⟨#[]⟩] rfl) (HC7.out.below hbl)).mono ?_
    rintro r w8 ⟨v8, rfl, hown, hb⟩
    obtain ⟨A8, c8, rfl⟩ := own_slice hown
    simp only [vOut, outCells, txt, List.length_singleton] at hown ⊢
    have hbb : Below w7.heap.size w7 w8 := hbl.trans (hb.mono hbl.size)
    clear hown hbl hb H2
    go_upto_region 11 with fail
    have hbo : Below w8.heap.size w8 (w8.alloc (.cells #[.bool false, .int .i64 0, .string ⟨#[]⟩, .int .i64 er1, .int .i64 ai, .int .i64 ak, .int .i64 am, .string ⟨at4.toArray⟩, .slice A8 1 c8] 40)) := (Below.refl _ _).alloc (Nat.le_refl _) _
    have AO2 : Hid (At (w8.alloc (.cells #[.bool false, .int .i64 0, .string ⟨#[]⟩, .int .i64 er1, .int .i64 ai, .int .i64 ak, .int .i64 am, .string ⟨at4.toArray⟩, .slice A8 1 c8] 40)) w8.heap.size 40 (outCells (false, (0, []), er1, (ai, ak, am, at4), [(1, en)]) (.slice A8 1 c8))) := Lib.hid (At.new w8 40 (outCells (false, (0, []), er1, (ai, ak, am, at4), [(1, en)]) (.slice A8 1 c8)))
    have hb2 : Below w7.heap.size w7 (w8.alloc (.cells #[.bool false, .int .i64 0, .string ⟨#[]⟩, .int .i64 er1, .int .i64 ai, .int .i64 ak, .int .i64 am, .string ⟨at4.toArray⟩, .slice A8 1 c8] 40)) := hbb.trans (hbo.mono hbb.size)
    have AE9 := Lib.hid (AE7.out.below hb2)
    have AF9 := Lib.hid (AF7.out.below hb2)
    have AG9 := Lib.hid (AG7.out.below hb2)
    have AK9 := Lib.hid (AK7.out.below hb2)
    have HC9 := Lib.hid (HC7.out.below hb2)
    have HB9 := Lib.hid (HB7.out.trans (hb2.mono HB7.out.size))
    have AP1 := Lib.hid (AO1.out.below hb2)
    clear AO1
    have AO1 := AP1
    clear AP1
    obtain ⟨w9, hw9⟩ : ∃ w9, w8.alloc (.cells #[.bool false, .int .i64 0, .string ⟨#[]⟩, .int .i64 er1, .int .i64 ai, .int .i64 ak, .int .i64 am, .string ⟨at4.toArray⟩, .slice A8 1 c8] 40) = w9 := ⟨_, rfl⟩
    rw [hw9] at AO1 AO2 AE9 AF9 AG9 AK9 HC9 HB9 ⊢
    clear hw9 hb2 hbo hbb AE7 AF7 AG7 AK7 HC7 HB7
    have k1 : w9.cell? ⟨w2.heap.size, 1, none⟩ = some (.string ⟨en.toArray⟩) := AK9.out.cell 1
    go_wp2_with fail
    clear k1
    have hbl : Below w9.heap.size w9 w9 := Below.refl _ _
    refine (H3.out _ HC9.out).mono ?_
    rintro r w10 ⟨v10, rfl, hown, hb⟩
    obtain ⟨A10, c10, rfl⟩ := own_slice hown
    simp only [vOut, outCells, txt, List.length_singleton] at hown ⊢
    have hbb : Below w9.heap.size w9 w10 := hbl.trans (hb.mono hbl.size)
    clear hown hbl hb H3
    go_upto_region 12 with fail
    have hbo : Below w10.heap.size w10 (w10.alloc (.cells #[.bool false, .int .i64 0, .string ⟨#[]⟩, .int .i64 er2, .int .i64 bi, .int .i64 bk, .int .i64 bm, .string ⟨bt.toArray⟩, .slice A10 1 c10] 40)) := (Below.refl _ _).alloc (Nat.le_refl _) _
    have AO3 : Hid (At (w10.alloc (.cells #[.bool false, .int .i64 0, .string ⟨#[]⟩, .int .i64 er2, .int .i64 bi, .int .i64 bk, .int .i64 bm, .string ⟨bt.toArray⟩, .slice A10 1 c10] 40)) w10.heap.size 40 (outCells (false, (0, []), er2, (bi, bk, bm, bt), [(1, en)]) (.slice A10 1 c10))) := Lib.hid (At.new w10 40 (outCells (false, (0, []), er2, (bi, bk, bm, bt), [(1, en)]) (.slice A10 1 c10)))
    have hb2 : Below w9.heap.size w9 (w10.alloc (.cells #[.bool false, .int .i64 0, .string ⟨#[]⟩, .int .i64 er2, .int .i64 bi, .int .i64 bk, .int .i64 bm, .string ⟨bt.toArray⟩, .slice A10 1 c10] 40)) := hbb.trans (hbo.mono hbb.size)
    have AE11 := Lib.hid (AE9.out.below hb2)
    have AF11 := Lib.hid (AF9.out.below hb2)
    have AG11 := Lib.hid (AG9.out.below hb2)
    have AK11 := Lib.hid (AK9.out.below hb2)
    have HC11 := Lib.hid (HC9.out.below hb2)
    have HB11 := Lib.hid (HB9.out.trans (hb2.mono HB9.out.size))
    have AP1 := Lib.hid (AO1.out.below hb2)
    clear AO1
    have AO1 := AP1
    clear AP1
    have AP2 := Lib.hid (AO2.out.below hb2)
    clear AO2
    have AO2 := AP2
    clear AP2
    obtain ⟨w11, hw11⟩ : ∃ w11, w10.alloc (.cells #[.bool false, .int .i64 0, .string ⟨#[]⟩, .int .i64 er2, .int .i64 bi, .int .i64 bk, .int .i64 bm, .string ⟨bt.toArray⟩, .slice A10 1 c10] 40) = w11 := ⟨_, rfl⟩
    rw [hw11] at AO1 AO2 AO3 AE11 AF11 AG11 AK11 HC11 HB11 ⊢
    clear hw11 hb2 hbo hbb AE9 AF9 AG9 AK9 HC9 HB9
    obtain ⟨a0, a1, a2, a3, a4, a5, a6, a7, a8⟩ := out_cells AO1.out
    obtain ⟨b0, b1, b2, b3, b4, b5, b6, b7, b8⟩ := out_cells AO2.out
    obtain ⟨d0, d1, d2, d3, d4, d5, d6, d7, d8⟩ := out_cells AO3.out
    obtain ⟨x0, x1, x2, x3, x4, x5, x6⟩ := en_cells AE11.out
    obtain ⟨z0, z1, z2, z3, z4, z5, z6⟩ := en_cells AG11.out
    simp only [txt] at x0 x1 x2 x3 x4 x5 x6 z0 z1 z2 z3 z4 z5 z6 a2 a7 b2 b7 d2 d7
    clear HCK HFI HCE HCW HKC AE11 AF11 AG11 AK11 HC11 AO1 AO2 AO3
    rcases HF1.out with ⟨rfl, rfl⟩ | ⟨rfl, rfl, hn1⟩
    · rcases HF2.out with ⟨rfl, rfl⟩ | ⟨rfl, rfl, hn2⟩
      · go_wp2_with fail
        refine (awake14 _).mono ?_
        rintro r w12 ⟨rfl, hb12⟩
        go_wp2_with fail
        go_ret
        exact ⟨rfl, HB11.out.trans (hb12.mono HB11.out.size)⟩
      · simp only [Prod.mk.injEq] at hn2
        obtain ⟨rfl, rfl, rfl, rfl⟩ := hn2
        have hq2 : ∀ V : World, (binOp .eql 34 (.agg #[.int .i64 bi, .int .i64 bk, .int .i64 bm, .string ⟨bt.toArray⟩]) (.agg #[.int .i64 bi, .int .i64 bk, .int .i64 bm, .string ⟨bt.toArray⟩])).run Tryz.prog V = .ok (.bool true) V := fun V => by
          have := eql_node (bi, bk, bm, bt) (bi, bk, bm, bt) V
          simpa [vNd, txt] using this
        go_wp2_with fail
        refine (awake14 _).mono ?_
        rintro r w12 ⟨rfl, hb12⟩
        go_wp2_with fail
        go_ret
        exact ⟨rfl, HB11.out.trans (hb12.mono HB11.out.size)⟩
    · simp only [Prod.mk.injEq] at hn1
      obtain ⟨rfl, rfl, rfl, rfl⟩ := hn1
      have hq1 : ∀ V : World, (binOp .neq 34 (.agg #[.int .i64 ai, .int .i64 ak, .int .i64 am, .string ⟨at4.toArray⟩]) (.agg #[.int .i64 ai, .int .i64 ak, .int .i64 am, .string ⟨at4.toArray⟩])).run Tryz.prog V = .ok (.bool false) V := fun V => by
        have := neq_node (ai, ak, am, at4) (ai, ak, am, at4) V
        simpa [vNd, txt] using this
      rcases HF2.out with ⟨rfl, rfl⟩ | ⟨rfl, rfl, hn2⟩
      · go_wp2_with fail
        refine (awake14 _).mono ?_
        rintro r w12 ⟨rfl, hb12⟩
        go_wp2_with fail
        go_ret
        exact ⟨rfl, HB11.out.trans (hb12.mono HB11.out.size)⟩
      · simp only [Prod.mk.injEq] at hn2
        obtain ⟨rfl, rfl, rfl, rfl⟩ := hn2
        have hq2 : ∀ V : World, (binOp .eql 34 (.agg #[.int .i64 bi, .int .i64 bk, .int .i64 bm, .string ⟨bt.toArray⟩]) (.agg #[.int .i64 bi, .int .i64 bk, .int .i64 bm, .string ⟨bt.toArray⟩])).run Tryz.prog V = .ok (.bool true) V := fun V => by
          have := eql_node (bi, bk, bm, bt) (bi, bk, bm, bt) V
          simpa [vNd, txt] using this
        go_wp2_with fail
        refine (awake14 _).mono ?_
        rintro r w12 ⟨rfl, hb12⟩
        go_wp2_with fail
        go_ret
        exact ⟨rfl, HB11.out.trans (hb12.mono HB11.out.size)⟩
  · have hcb : (Nm.checkE en != 0) = true := by simpa using hce
    clear hce
    go_wp2_with fail
    refine (HCK.out _).mono ?_
    rintro r w2 ⟨rfl, hb2⟩
    go_wp2_with fail
    refine (awake14 _).mono ?_
    rintro r w9 ⟨rfl, hb9⟩
    go_wp2_with fail
    go_ret
    have hb := HB1.out.trans (hb2.mono HB1.out.size)
    exact ⟨rfl, hb.trans (hb9.mono hb.size)⟩
end Go.Proofs.YtoacobcbloljkaaGreatDoor
