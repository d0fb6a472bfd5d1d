/-
  The walk of the law WalkUps.
-/
import Derived.Test.YtoacobcbloljkaaGreatDoorFilled
import Derived.Test.YtoacobcbloljkaaGreatDoorWalkPure2
import Derived.Test.YtoacobcbloljkaaGreatDoorAwake14
import Derived.Test.YtoacobcbloljkaaGreatDoorCopyT
import Derived.Test.YtoacobcbloljkaaGreatDoorDentList
import Derived.Test.YtoacobcbloljkaaGreatDoorRegF
namespace Go.Proofs.YtoacobcbloljkaaGreatDoor
open Go.RowKit

theorem bel_app {a W W' : World} {row : Option Nat} (h : Below a.heap.size a W) (hg : W.grownBy W' row) (hr : ∀ k, row = some k → a.heap.size ≤ k) : Below a.heap.size a W' := h.grown hg h.size hr
/-- A block of another type stays when a row grows. -/
theorem at_other {W w' : World} {g : Nat} {t e : TypeId} {cs : List Value} {base sz n : Nat} {v : Value} {xs : List Value} (h : At W g t cs) (ho : W.ownsRow base e sz v n xs) (hne : t ≠ e) (hg : W.grownBy w' v.ownBlock) : At w' g t cs := by
  refine h.kp ((Kp.refl (fun k => v.ownBlock ≠ some k) W).grown hg fun k e' _ q => q e') fun hk => ?_
  obtain ⟨_, ⟨rfl, _⟩ | ⟨g', c', cur, rfl, _, hh, _⟩⟩ := ho
  · cases hk
  · injection hk with hk
    subst hk
    have h1 := h.symm.trans hh
    injection h1 with h1
    injection h1 with _ h1
    exact hne h1
theorem Wk.root_steps (kn : Key → Option En) (lk : Nat) : Wk.steps kn true lk [[46, 46], [46], [46, 46]] [rootNd] true [] = (false, Wk.noKey, 0, rootNd, []) := by
  rw [Wk.steps_up kn true lk _ true [] (x := rootNd) rfl rfl, show Wk.up [rootNd] = [rootNd] from rfl, Wk.steps_dot kn true lk _ true [] (x := rootNd) rfl rfl, Wk.steps_up kn true lk _ true [] (x := rootNd) rfl rfl, show Wk.up [rootNd] = [rootNd] from rfl, Wk.steps]
  simp [Wk.lastNd, rootNd]

set_option maxRecDepth 100000 in
set_option maxHeartbeats 4000000 in
theorem walkUps_walk (A : Option Addr) (n cp : Nat) (s : List Tr.Op) (p : ByteArray) (links : Int) (hl0 : -9223372036854775808 ≤ links) (hl1 : links ≤ 9223372036854775807) (w : World)
    (hs : Rd w 7 A n (cOps s)) (hn : n ≤ 1759218604391) :
    Calls Tryz.prog 9 #[.slice A n cp, .string p, .int .i64 links] w fun e w' => e = .returned (.bool true) ∧ Below w.heap.size w w' := by
  have hfi := filled_any w A n cp s hs hn
  generalize Tr.run Tr.t0 s = t at hfi
  have hsp := fun W => split_path p W
  have hlen := Nm.splitR_len p.toList
  generalize Nm.splitR p.toList = R at hsp hlen
  obtain ⟨ss, dir, er⟩ := R
  simp only at hsp hlen
  obtain ⟨lk, hlk⟩ : ∃ lk, (min (max links 0) 8).toNat = lk := ⟨_, rfl⟩
  have hlk8 : lk ≤ 8 := by omega
  have hst := fun V B m cq s2 c e h l wh clk h1 h2 H => steps_any V none B 0 0 m cq [] s2 true true links c e h l wh clk (by omega) h1 hl0 hl1 (Rd.empty _ _ _) h2 H
  simp only [hlk] at hst
  have HFI := Lib.hid hfi
  have HSP := Lib.hid hsp
  have HST := Lib.hid hst
  clear hfi hsp hst hs hlk
  go_enter Tryz.func9, Tryz.ntmps9
  go_wp2_with fail
  refine HFI.out.mono ?_
  rintro r w1 ⟨M, c, e, h, rfl, hf1⟩
  have HGD := Lib.hid hf1.g.at_.good
  have hkf := known_fill hf1.g.at_.good
  have hnm := fun d E hp x hx => fill_names hf1.g.at_.good (d := d) (E := E) hp (x := x) hx
  have hsz := fillS_size (Tr.dumpR t.L)
  have hdl := Tr.dump_len t.L
  have hl47 := hf1.g.at_.good.len
  have hc1 := hf1.ca
  have HB1 := Lib.hid hf1.g.bl
  obtain ⟨F, hF⟩ : ∃ F, fillS (Tr.dumpR t.L) = F := ⟨_, rfl⟩
  rw [hF] at hkf hc1 hsz
  simp only [hF] at hnm
  obtain ⟨l, wh, clk⟩ := F
  simp only at hkf hc1 hsz hnm
  have hst2 := fun V B m cq s2 h1 h2 Hc => HST.out V B m cq s2 c e h l wh clk h1 h2 Hc
  simp only [hkf] at hst2
  generalize Wk.knT t.L = kn at hst2 hnm
  have HST2 := Lib.hid hst2
  have HNM := Lib.hid hnm
  have HC1 := Lib.hid hc1
  have hll : l.length ≤ 1256584717421 := by omega
  clear hst2 hnm hc1 hkf hsz hdl hl47 hF hf1 HFI HST
  go_wp2_with fail
  refine (HSP.out _).mono ?_
  rintro r w2 ⟨v2, rfl, hown2, hb2⟩
  obtain ⟨As, cs, rfl⟩ := own_slice hown2
  have HS2 := Lib.hid (Rd.of_own hown2)
  have HC2 := Lib.hid (HC1.out.below hb2)
  have HB2 := Lib.hid (HB1.out.trans (hb2.mono HB1.out.size))
  clear hown2 hb2 HC1 HB1 HSP
  by_cases he : er = 0
  · subst he
    obtain ⟨o, ho⟩ : ∃ o, Wk.steps kn true lk ss [rootNd] true [] = o := ⟨_, rfl⟩
    have h1 := HST2.out w2 As ss.length cs ss (by omega) HS2.out HC2.out
    rw [ho] at h1
    have hus := Wk.steps_len kn true lk ss [rootNd] true []
    rw [ho] at hus
    have H1 := Lib.hid h1
    have HO := Lib.hid ho
    clear h1 ho
    go_wp2_with fail
    refine H1.out.mono ?_
    rintro r w3 ⟨v3, rfl, hown3, hb3⟩
    have hle3 := own_le hown3
    obtain ⟨A3, c3, rfl⟩ := own_slice hown3
    obtain ⟨nd, ⟨kd, kk⟩, eo, ⟨oi, ok, om, ot⟩, us⟩ := o
    simp only [vOut, outCells, txt] at hown3 hle3 ⊢
    have hus2 : us.length ≤ 481 := by simp only [Wk.outUsed, List.length_nil] at hus; omega
    clear hus
    have HLE : Hid (us.length ≤ maxLen) := hle3
    have hb4 : Below w3.heap.size w3 (w3.alloc (.cells #[.bool nd, .int .i64 kd, .string ⟨kk.toArray⟩, .int .i64 eo, .int .i64 oi, .int .i64 ok, .int .i64 om, .string ⟨ot.toArray⟩, .slice A3 us.length c3] 40)) := (Below.refl _ _).alloc (Nat.le_refl _) _
    have hb24 : Below w2.heap.size w2 (w3.alloc (.cells #[.bool nd, .int .i64 kd, .string ⟨kk.toArray⟩, .int .i64 eo, .int .i64 oi, .int .i64 ok, .int .i64 om, .string ⟨ot.toArray⟩, .slice A3 us.length c3] 40)) := hb3.trans (hb4.mono hb3.size)
    have AO : Hid (At (w3.alloc (.cells #[.bool nd, .int .i64 kd, .string ⟨kk.toArray⟩, .int .i64 eo, .int .i64 oi, .int .i64 ok, .int .i64 om, .string ⟨ot.toArray⟩, .slice A3 us.length c3] 40)) w3.heap.size 40 (outCells (nd, (kd, kk), eo, (oi, ok, om, ot), us) (.slice A3 us.length c3))) := Lib.hid (At.new w3 40 (outCells (nd, (kd, kk), eo, (oi, ok, om, ot), us) (.slice A3 us.length c3)))
    have HS4 := Lib.hid (HS2.out.below hb24)
    have HC4 := Lib.hid (HC2.out.below hb24)
    have HB4 := Lib.hid (HB2.out.trans (hb24.mono HB2.out.size))
    clear hle3 hown3 H1
    go_upto_region 8 with fail
    obtain ⟨w4, hw4⟩ : ∃ w4, w3.alloc (.cells #[.bool nd, .int .i64 kd, .string ⟨kk.toArray⟩, .int .i64 eo, .int .i64 oi, .int .i64 ok, .int .i64 om, .string ⟨ot.toArray⟩, .slice A3 us.length c3] 40) = w4 := ⟨_, rfl⟩
    rw [hw4] at AO HS4 HC4 HB4 ⊢
    obtain ⟨bo, hbo⟩ : ∃ bo, w3.heap.size = bo := ⟨_, rfl⟩
    rw [hbo] at AO ⊢
    clear hw4 hb3 hb4 hb24 hbo HS2 HC2 HB2
    have hbr : Below w4.heap.size w4 (w4.alloc (.cells #[.string ⟨#[46, 46]⟩, .string ⟨#[46]⟩, .string ⟨#[46, 46]⟩] 9)) := (Below.refl _ _).alloc (Nat.le_refl _) _
    have h2 := HST2.out _ _ 3 3 [[46, 46], [46], [46, 46]] (by omega) (rd_new w4 9 1 3 [.string ⟨#[46, 46]⟩, .string ⟨#[46]⟩, .string ⟨#[46, 46]⟩] rfl) (HC4.out.below hbr)
    rw [Wk.root_steps] at h2
    have H2 := Lib.hid h2
    clear h2
    go_wp2_with fail
    refine H2.out.mono ?_
    rintro r w5 ⟨v5, rfl, hown5, hb5⟩
    obtain ⟨A5, c5, rfl⟩ := own_slice hown5
    simp only [vOut, outCells, txt, rootNd, Wk.noKey, List.length_nil] at hown5 ⊢
    have hb45 : Below w4.heap.size w4 w5 := hbr.trans (hb5.mono hbr.size)
    have hb6 : Below w5.heap.size w5 (w5.alloc (.cells #[.bool false, .int .i64 0, .string ⟨#[]⟩, .int .i64 0, .int .i64 1, .int .i64 1, .int .i64 0, .string ⟨#[]⟩, .slice A5 0 c5] 40)) := (Below.refl _ _).alloc (Nat.le_refl _) _
    have hb46 : Below w4.heap.size w4 (w5.alloc (.cells #[.bool false, .int .i64 0, .string ⟨#[]⟩, .int .i64 0, .int .i64 1, .int .i64 1, .int .i64 0, .string ⟨#[]⟩, .slice A5 0 c5] 40)) := hb45.trans (hb6.mono hb45.size)
    have AR : Hid (At (w5.alloc (.cells #[.bool false, .int .i64 0, .string ⟨#[]⟩, .int .i64 0, .int .i64 1, .int .i64 1, .int .i64 0, .string ⟨#[]⟩, .slice A5 0 c5] 40)) w5.heap.size 40 (outCells (false, (0, []), 0, (1, 1, 0, []), []) (.slice A5 0 c5))) := Lib.hid (At.new w5 40 (outCells (false, (0, []), 0, (1, 1, 0, []), []) (.slice A5 0 c5)))
    have AO6 := Lib.hid (AO.out.below hb46)
    have HS6 := Lib.hid (HS4.out.below hb46)
    have HC6 := Lib.hid (HC4.out.below hb46)
    have HB6 := Lib.hid (HB4.out.trans (hb46.mono HB4.out.size))
    clear hown5 H2
    go_upto_region 9 with fail
    obtain ⟨w6, hw6⟩ : ∃ w6, w5.alloc (.cells #[.bool false, .int .i64 0, .string ⟨#[]⟩, .int .i64 0, .int .i64 1, .int .i64 1, .int .i64 0, .string ⟨#[]⟩, .slice A5 0 c5] 40) = w6 := ⟨_, rfl⟩
    rw [hw6] at AR AO6 HS6 HC6 HB6 ⊢
    clear hw6 hbr hb5 hb45 hb6 hb46 AO HS4 HC4 HB4
    obtain ⟨r0, r1, r2, r3, r4, r5, r6, r7, r8⟩ := out_cells AR.out
    obtain ⟨o0, o1, o2, o3, o4, o5, o6, o7, o8⟩ := out_cells AO6.out
    simp only at o3 o4 o5 o6 o8
    by_cases hok : eo = 0 ∧ ok = 1
    · obtain ⟨rfl, rfl⟩ := hok
      have hlaw := fun nm hn y hy hg hk => Wk.ups_law kn lk ss HO.out rfl rfl (nm := nm) hn (y := y) hy hg hk
      have HLAW := Lib.hid hlaw
      have hnam := dentNames_any w6 c e h l wh clk oi HC6.out hll
      have HNA := Lib.hid hnam
      clear hlaw hnam
      go_wp2_with fail
      refine HNA.out.mono ?_
      rintro r w7 ⟨v7, E, rfl, hpE, _, hown7, hb7⟩
      obtain ⟨Al, cl, rfl⟩ := own_slice hown7
      have HE := Lib.hid (fun x hx => HNM.out oi E hpE x hx)
      have HR7 := Lib.hid (Rd.of_own hown7)
      have AO7 := Lib.hid (AO6.out.below hb7)
      have HS7 := Lib.hid (HS6.out.below hb7)
      have HC7 := Lib.hid (HC6.out.below hb7)
      have HB7 := Lib.hid (HB6.out.trans (hb7.mono HB6.out.size))
      have hEl : E.length ≤ maxLen := own_le hown7
      unfold maxLen at hEl
      clear hpE hown7 hb7 HNA AR AO6 HS6 HC6 HB6 r0 r1 r2 r3 r4 r5 r6 r7 r8 o0 o1 o2 o3 o4 o5 o6 o7 o8
      have henC : ∀ (args : Array Value) (V : World), (callFunc 15 args).run Tryz.prog V = .ok (.enter 15 args) V := enters_of Tryz.func15 (by kernel_rfl) rfl
      have henS : ∀ (args : Array Value) (V : World), (callFunc 16 args).run Tryz.prog V = .ok (.enter 16 args) V := enters_of Tryz.func16 (by kernel_rfl) rfl
      have HENC := Lib.hid henC
      have HENS := Lib.hid henS
      clear henC henS
      go_wp2_with fail
      go_loopw [16] (fun iv wx => ∃ j : Nat, j ≤ E.length ∧ iv = .int .i64 j ∧ Hid (Below w7.heap.size w7 wx)) (fun iv _ => E.length - (RowKit.intOf iv).toNat)
      case atStart => exact ⟨0, by omega, rfl, Lib.hid (Below.refl _ _)⟩
      case round =>
        obtain ⟨j, hj, rfl, HW⟩ := hrel
        by_cases hlt : j < E.length
        · obtain ⟨ad, xd, xn, xg, xi, xk, xm, xt, rfl, hadb, hx, q0, q1, q2, q3, q4, q5, q6⟩ := (HR7.out.below HW.out).en_at hlt
          obtain ⟨hxd, hxg, hxc, hxk⟩ := HE.out _ (List.mem_of_getElem? hx)
          simp only at hxd hxg hxc hxk
          have hxd2 := hxd.symm
          subst hxd2
          subst hxg
          by_cases hk1 : xk = 1
          · subst hk1
            obtain ⟨hl1', hl2'⟩ := HLAW.out xn hxc _ hxk rfl rfl
            simp only at hl1' hl2'
            have hct := fun V (hV : Below wr.heap.size wr V) => copyT_any As ss.length cs ss V ((HS7.out.below HW.out).below hV) (by omega)
            have hsb := fun V A' c' (hV : Below wr.heap.size wr V) hr => HST2.out V A' (ss.length + 2) c' (ss ++ [xn, [46, 46]]) (by omega) hr ((HC7.out.below HW.out).below hV)
            simp only [hl1'] at hsb
            have HCT := Lib.hid hct
            have HSB := Lib.hid hsb
            have HL2 := Lib.hid hl2'
            have hltI : (j : Int) < (E.length : Int) := by omega
            have hltI2 : 0 ≤ (j : Int) := by omega
            have hc1 := q1
            have hadb2 : (ad.add (j * 7)).block < wr.heap.size := by rw [add_block]; exact hadb
            have henC := HENC.out
            have henS := HENS.out
            have HX := Lib.hid hx
            clear hct hsb hl1' hl2' hxc hxk hx
            go_upto_region 18 with fail
            clear q0 q1 q2 q3 q5 q6
          --REG r18
            have hSoft : Softs [isV (.pointer (some ⟨c, 0, none⟩)), isV (.slice As ss.length cs), fun u V => ∃ (A' : Option Addr) (c' : Nat), u = .slice A' (ss.length) c' ∧ Hid (V.ownsRow wr.heap.size 9 1 (.slice A' (ss.length) c') (ss.length) (txts (ss))), isV (.slice (some ad) E.length cl), isV (.int .i64 j), isV (.pointer (some (ad.add (j * 7)))), isV (.pointer (some (ad.add (j * 7)))), isV (.pointer (some ⟨(ad.add (j * 7)).block, (ad.add (j * 7)).off + 1, none⟩)), isV (.string ⟨xn.toArray⟩), fun u V => ∃ g : Nat, u = .slice (some ⟨g, 0, none⟩) 2 2 ∧ Hid (Rd V 1 (some ⟨g, 0, none⟩) 2 (txts ([xn, [46, 46]]))), fun u V => ∃ (A' : Option Addr) (c' : Nat), u = .slice A' (ss.length + 2) c' ∧ Hid (V.ownsRow wr.heap.size 9 1 (.slice A' (ss.length + 2) c') (ss.length + 2) (txts (ss ++ [xn, [46, 46]]))), isV (.int .i64 links), fun u _ => ∃ (A' : Option Addr) (c' : Nat), u = .agg #[.bool false, .int .i64 0, .string ⟨#[]⟩, .int .i64 0, .int .i64 oi, .int .i64 1, .int .i64 om, .string ⟨ot.toArray⟩, .slice A' (us.length + 1) c'], fun u V => ∃ g : Nat, u = .pointer (some ⟨g, 0, none⟩) ∧ wr.heap.size ≤ g ∧ Hid (At V g 40 [.bool false, .int .i64 0, .string ⟨#[]⟩, .int .i64 0, .int .i64 0, .int .i64 0, .int .i64 0, .string ⟨#[]⟩, .slice none 0 0]), fun u V => ∃ (g : Nat) (A' : Option Addr) (c' : Nat), u = .pointer (some ⟨g, 0, none⟩) ∧ wr.heap.size ≤ g ∧ Hid (At V g 40 [.bool false, .int .i64 0, .string ⟨#[]⟩, .int .i64 0, .int .i64 oi, .int .i64 1, .int .i64 om, .string ⟨ot.toArray⟩, .slice A' (us.length + 1) c'])] := ⟨soft_is, soft_is, fun u V V' hb ⟨A', c', e, h⟩ => ⟨A', c', e, Lib.hid (own_below h.out hb)⟩, soft_is, soft_is, soft_is, soft_is, soft_is, soft_is, fun u V V' hb ⟨g, e, h⟩ => ⟨g, e, Lib.hid (h.out.below hb)⟩, fun u V V' hb ⟨A', c', e, h⟩ => ⟨A', c', e, Lib.hid (own_below h.out hb)⟩, soft_is, fun _ _ _ _ h => h, fun u V V' hb ⟨g, e, hg, h⟩ => ⟨g, e, hg, Lib.hid (h.out.below hb)⟩, fun u V V' hb ⟨g, A', c', e, hg, h⟩ => ⟨g, A', c', e, hg, Lib.hid (h.out.below hb)⟩, trivial⟩
            refine wp_region_facts (by kernel_rfl) ([87, 88, 89, 90, 91, 92, 93, 94, 95, 96, 97, 98, 99, 17, 17] : List Tmp) ([12, 2, 10, 5, 5, 6, 7, 8, 9, 10, 12, 12, 14, 14, 15] : List Nat) [isV (.pointer (some ⟨c, 0, none⟩)), isV (.slice As ss.length cs), fun u V => ∃ (A' : Option Addr) (c' : Nat), u = .slice A' (ss.length) c' ∧ Hid (V.ownsRow wr.heap.size 9 1 (.slice A' (ss.length) c') (ss.length) (txts (ss))), isV (.slice (some ad) E.length cl), isV (.int .i64 j), isV (.pointer (some (ad.add (j * 7)))), isV (.pointer (some (ad.add (j * 7)))), isV (.pointer (some ⟨(ad.add (j * 7)).block, (ad.add (j * 7)).off + 1, none⟩)), isV (.string ⟨xn.toArray⟩), fun u V => ∃ g : Nat, u = .slice (some ⟨g, 0, none⟩) 2 2 ∧ Hid (Rd V 1 (some ⟨g, 0, none⟩) 2 (txts ([xn, [46, 46]]))), fun u V => ∃ (A' : Option Addr) (c' : Nat), u = .slice A' (ss.length + 2) c' ∧ Hid (V.ownsRow wr.heap.size 9 1 (.slice A' (ss.length + 2) c') (ss.length + 2) (txts (ss ++ [xn, [46, 46]]))), isV (.int .i64 links), fun u _ => ∃ (A' : Option Addr) (c' : Nat), u = .agg #[.bool false, .int .i64 0, .string ⟨#[]⟩, .int .i64 0, .int .i64 oi, .int .i64 1, .int .i64 om, .string ⟨ot.toArray⟩, .slice A' (us.length + 1) c'], fun u V => ∃ g : Nat, u = .pointer (some ⟨g, 0, none⟩) ∧ wr.heap.size ≤ g ∧ Hid (At V g 40 [.bool false, .int .i64 0, .string ⟨#[]⟩, .int .i64 0, .int .i64 0, .int .i64 0, .int .i64 0, .string ⟨#[]⟩, .slice none 0 0]), fun u V => ∃ (g : Nat) (A' : Option Addr) (c' : Nat), u = .pointer (some ⟨g, 0, none⟩) ∧ wr.heap.size ≤ g ∧ Hid (At V g 40 [.bool false, .int .i64 0, .string ⟨#[]⟩, .int .i64 0, .int .i64 oi, .int .i64 1, .int .i64 om, .string ⟨ot.toArray⟩, .slice A' (us.length + 1) c'])] (fun V => Hid (Below wr.heap.size wr V)) rfl (by simp) (by kernel_rfl) (by kernel_rfl) (by kernel_rfl) ?hB18 ?steps18 ?hend18
            case hB18 => exact Lib.hid (below_drew (Below.refl _ _))
            case steps18 =>
              refine (?gen18 : ∀ a1 : Act, _ = a1 → StepsF _ _ _ _ _ _ a1 _ _) _ rfl
              intro a1 ha1
              have hs1 : ∀ d ∈ ([87, 88, 89, 90, 91, 92, 93, 94, 95, 96, 97, 98, 99, 17, 17] : List Tmp), d < a1.tmps.size := by rw [← ha1]; simp
              have B2 : ∀ y, (putsA y ([87, 88, 89, 90, 91, 92, 93, 94, 95, 96, 97, 98, 99, 17, 17] : List Tmp) a1).tmps[2]?.getD undef = .int .i64 links := fun y => puts_norm0 (by decide) (by rw [← ha1]; rfl)
              have B7 : ∀ y, (putsA y ([87, 88, 89, 90, 91, 92, 93, 94, 95, 96, 97, 98, 99, 17, 17] : List Tmp) a1).tmps[7]?.getD undef = .pointer (some ⟨c, 0, none⟩) := fun y => puts_norm0 (by decide) (by rw [← ha1]; rfl)
              have B10 : ∀ y, (putsA y ([87, 88, 89, 90, 91, 92, 93, 94, 95, 96, 97, 98, 99, 17, 17] : List Tmp) a1).tmps[10]?.getD undef = .slice As ss.length cs := fun y => puts_norm0 (by decide) (by rw [← ha1]; rfl)
              have B15 : ∀ y, (putsA y ([87, 88, 89, 90, 91, 92, 93, 94, 95, 96, 97, 98, 99, 17, 17] : List Tmp) a1).tmps[15]?.getD undef = .slice (some ad) E.length cl := fun y => puts_norm0 (by decide) (by rw [← ha1]; rfl)
              have B16 : ∀ y, (putsA y ([87, 88, 89, 90, 91, 92, 93, 94, 95, 96, 97, 98, 99, 17, 17] : List Tmp) a1).tmps[16]?.getD undef = .int .i64 j := fun y => puts_norm0 (by decide) (by rw [← ha1]; rfl)
              clear ha1
              show StepsF _ _ _ _ _ _ _ _ [_, _, _, _, _, _, _, _, _, _, _, _, _, _, _]
              iterate 15 (with_reducible refine stepsF_cons ?_ ?_; rotate_left)
              with_reducible exact stepsF_nil
              · rintro y W hB -
                exact sf_value hB rfl rfl (v := .pointer (some ⟨c, 0, none⟩)) (by simp [execOp, B7, go_sem]) rfl
              · rintro y W hB -
                exact sf_value hB rfl rfl (v := .slice As ss.length cs) (by simp [execOp, B10, go_sem]) rfl
              · rintro y W hB hD
                have e88 : y 88 = .slice As ss.length cs := deps_at hD 0 { on := 1, ground := .data } rfl (by kernel_rfl)
                have E88 : (putsA y ([87, 88, 89, 90, 91, 92, 93, 94, 95, 96, 97, 98, 99, 17, 17] : List Tmp) a1).eval (.tmp 88) = .slice As ss.length cs := puts_eval (by decide) hs1 e88
                refine sf_enter hSoft rfl rfl (exec_call1 (f := 15) rfl henC E88) ?_
                have hbw : Below wr.heap.size wr W := hB.out
                refine (HCT.out W hbw).mono ?_
                rintro e' w5 ⟨v5, rfl, hown5, hb5⟩
                obtain ⟨A5, c5, rfl⟩ := own_slice hown5
                exact ⟨_, rfl, hb5, Lib.hid (hbw.trans (hb5.mono hbw.size)), A5, c5, rfl, Lib.hid (own_base hown5 hbw.size)⟩
              · rintro y W hB -
                exact sf_value hB rfl rfl (v := .slice (some ad) E.length cl) (by simp [execOp, B15, go_sem]) rfl
              · rintro y W hB -
                exact sf_value hB rfl rfl (v := .int .i64 j) (by simp [execOp, B16, go_sem]) rfl
              · rintro y W hB hD
                have e90 : y 90 = .slice (some ad) E.length cl := deps_at hD 0 { on := 3, ground := .data } rfl (by kernel_rfl)
                have N90 : (putsA y ([87, 88, 89, 90, 91, 92, 93, 94, 95, 96, 97, 98, 99, 17, 17] : List Tmp) a1).tmps[90]?.getD undef = .slice (some ad) E.length cl := puts_norm (by decide) hs1 e90
                have e91 : y 91 = .int .i64 j := deps_at hD 1 { on := 4, ground := .data } rfl (by kernel_rfl)
                have N91 : (putsA y ([87, 88, 89, 90, 91, 92, 93, 94, 95, 96, 97, 98, 99, 17, 17] : List Tmp) a1).tmps[91]?.getD undef = .int .i64 j := puts_norm (by decide) hs1 e91
                exact sf_value hB rfl rfl (v := .pointer (some (ad.add (j * 7)))) (by simp [execOp, N90, N91, hltI, hltI2, go_sem]) rfl
              · rintro y W hB hD
                have e92 : y 92 = .pointer (some (ad.add (j * 7))) := deps_at hD 0 { on := 5, ground := .data } rfl (by kernel_rfl)
                have N92 : (putsA y ([87, 88, 89, 90, 91, 92, 93, 94, 95, 96, 97, 98, 99, 17, 17] : List Tmp) a1).tmps[92]?.getD undef = .pointer (some (ad.add (j * 7))) := puts_norm (by decide) hs1 e92
                exact sf_value hB rfl rfl (v := .pointer (some (ad.add (j * 7)))) (by simp [execOp, N92, go_sem]) rfl
              · rintro y W hB hD
                have e93 : y 93 = .pointer (some (ad.add (j * 7))) := deps_at hD 0 { on := 6, ground := .data } rfl (by kernel_rfl)
                have N93 : (putsA y ([87, 88, 89, 90, 91, 92, 93, 94, 95, 96, 97, 98, 99, 17, 17] : List Tmp) a1).tmps[93]?.getD undef = .pointer (some (ad.add (j * 7))) := puts_norm (by decide) hs1 e93
                exact sf_value hB rfl rfl (v := .pointer (some ⟨(ad.add (j * 7)).block, (ad.add (j * 7)).off + 1, none⟩)) (by simp [execOp, N93, go_sem]) rfl
              · rintro y W hB hD
                have e94 : y 94 = .pointer (some ⟨(ad.add (j * 7)).block, (ad.add (j * 7)).off + 1, none⟩) := deps_at hD 0 { on := 7, ground := .data } rfl (by kernel_rfl)
                have N94 : (putsA y ([87, 88, 89, 90, 91, 92, 93, 94, 95, 96, 97, 98, 99, 17, 17] : List Tmp) a1).tmps[94]?.getD undef = .pointer (some ⟨(ad.add (j * 7)).block, (ad.add (j * 7)).off + 1, none⟩) := puts_norm (by decide) hs1 e94
                have c1 : W.cell? ⟨(ad.add (j * 7)).block, (ad.add (j * 7)).off + 1, none⟩ = some (.string ⟨xn.toArray⟩) := (hB.out.cell (by exact hadb2)).trans hc1
                exact sf_value hB rfl rfl (v := .string ⟨xn.toArray⟩) (by simp [execOp, N94, c1, go_sem]) rfl
              · rintro y W hB hD
                have e95 : y 95 = .string ⟨xn.toArray⟩ := deps_at hD 0 { on := 8, ground := .data } rfl (by kernel_rfl)
                have N95 : (putsA y ([87, 88, 89, 90, 91, 92, 93, 94, 95, 96, 97, 98, 99, 17, 17] : List Tmp) a1).tmps[95]?.getD undef = .string ⟨xn.toArray⟩ := puts_norm (by decide) hs1 e95
                have hb1 : Below W.heap.size W (W.alloc (.cells #[.string ⟨xn.toArray⟩, .string ⟨#[46, 46]⟩] 9)) := (Below.refl _ _).alloc (Nat.le_refl _) _
                refine sf_new hSoft rfl rfl (v := .slice (some ⟨W.heap.size, 0, none⟩) 2 2) (W' := W.alloc (.cells #[.string ⟨xn.toArray⟩, .string ⟨#[46, 46]⟩] 9)) (by simp [execOp, N95, go_sem]) hb1 (Lib.hid (hB.out.trans (hb1.mono hB.out.size))) ⟨_, rfl, Lib.hid (rd_new W 9 1 2 [.string ⟨xn.toArray⟩, .string ⟨#[46, 46]⟩] rfl)⟩
              · rintro y W hB hD
                obtain ⟨A5, c5, e89, HO5⟩ : ∃ (A' : Option Addr) (c' : Nat), y 89 = .slice A' (ss.length) c' ∧ Hid (W.ownsRow wr.heap.size 9 1 (.slice A' (ss.length) c') (ss.length) (txts (ss))) := deps_at hD 0 { on := 2, ground := .data } rfl (by kernel_rfl)
                have E89 : (putsA y ([87, 88, 89, 90, 91, 92, 93, 94, 95, 96, 97, 98, 99, 17, 17] : List Tmp) a1).eval (.tmp 89) = .slice A5 ss.length c5 := puts_eval (by decide) hs1 e89
                obtain ⟨g, e96, HG⟩ : ∃ g : Nat, y 96 = .slice (some ⟨g, 0, none⟩) 2 2 ∧ Hid (Rd W 1 (some ⟨g, 0, none⟩) 2 (txts ([xn, [46, 46]]))) := deps_at hD 1 { on := 9, ground := .data } rfl (by kernel_rfl)
                have E96 : (putsA y ([87, 88, 89, 90, 91, 92, 93, 94, 95, 96, 97, 98, 99, 17, 17] : List Tmp) a1).eval (.tmp 96) = .slice (some ⟨g, 0, none⟩) 2 2 := puts_eval (by decide) hs1 e96
                have hbw : Below wr.heap.size wr W := hB.out
                refine sf_append rfl rfl (.tmp 89) (.tmp 96) rfl elemTexts E89 HO5.out E96 HG.out (txts_one _) (by unfold maxLen; omega) (by omega) hbw.size ?_
                intro A' c' w' h1 h2 h3
                refine ⟨Lib.hid (bel_app hbw h2 (fun q e => (HO5.out.lt q e).1)), ⟨A', c', rfl, Lib.hid (by rw [txts_append]; exact h1)⟩, ?_⟩
                intro j hj hL u
                have hj' : j < 15 := hj
                match j, hj', hL with
                | 0, _, _ => exact id
                | 1, _, hL => exact (Bool.false_ne_true ((show false = liveB _ _ _ _ from by kernel_rfl).trans hL)).elim
                | 2, _, hL => exact (Bool.false_ne_true ((show false = liveB _ _ _ _ from by kernel_rfl).trans hL)).elim
                | 3, _, _ => exact id
                | 4, _, _ => exact id
                | 5, _, _ => exact id
                | 6, _, _ => exact id
                | 7, _, _ => exact id
                | 8, _, hL => exact (Bool.false_ne_true ((show false = liveB _ _ _ _ from by kernel_rfl).trans hL)).elim
                | 9, _, hL => exact (Bool.false_ne_true ((show false = liveB _ _ _ _ from by kernel_rfl).trans hL)).elim
                | 10, _, hL => exact (Bool.false_ne_true ((show false = liveB _ _ _ _ from by kernel_rfl).trans hL)).elim
                | 11, _, _ => exact id
                | 12, _, hL => exact (Bool.false_ne_true ((show false = liveB _ _ _ _ from by kernel_rfl).trans hL)).elim
                | 13, _, _ => exact fun ⟨g, e, hg, h⟩ => ⟨g, e, hg, Lib.hid (at_other h.out HO5.out (by decide) h2)⟩
                | 14, _, hL => exact (Bool.false_ne_true ((show false = liveB _ _ _ _ from by kernel_rfl).trans hL)).elim
              · rintro y W hB -
                exact sf_value hB rfl rfl (v := .int .i64 links) (by simp [execOp, B2, go_sem]) rfl
              · rintro y W hB hD
                have e87 : y 87 = .pointer (some ⟨c, 0, none⟩) := deps_at hD 0 { on := 0, ground := .data } rfl (by kernel_rfl)
                have E87 : (putsA y ([87, 88, 89, 90, 91, 92, 93, 94, 95, 96, 97, 98, 99, 17, 17] : List Tmp) a1).eval (.tmp 87) = .pointer (some ⟨c, 0, none⟩) := puts_eval (by decide) hs1 e87
                obtain ⟨A6, c6, e97, HO6⟩ : ∃ (A' : Option Addr) (c' : Nat), y 97 = .slice A' (ss.length + 2) c' ∧ Hid (W.ownsRow wr.heap.size 9 1 (.slice A' (ss.length + 2) c') (ss.length + 2) (txts (ss ++ [xn, [46, 46]]))) := deps_at hD 1 { on := 10, ground := .data } rfl (by kernel_rfl)
                have E97 : (putsA y ([87, 88, 89, 90, 91, 92, 93, 94, 95, 96, 97, 98, 99, 17, 17] : List Tmp) a1).eval (.tmp 97) = .slice A6 (ss.length + 2) c6 := puts_eval (by decide) hs1 e97
                have e98 : y 98 = .int .i64 links := deps_at hD 2 { on := 11, ground := .data } rfl (by kernel_rfl)
                have E98 : (putsA y ([87, 88, 89, 90, 91, 92, 93, 94, 95, 96, 97, 98, 99, 17, 17] : List Tmp) a1).eval (.tmp 98) = .int .i64 links := puts_eval (by decide) hs1 e98
                have hbw : Below wr.heap.size wr W := hB.out
                refine sf_enter hSoft rfl rfl (exec_call6 (f := 16) rfl henS E87 rfl E97 rfl rfl E98) ?_
                refine (HSB.out W A6 c6 hbw (Rd.of_own HO6.out)).mono ?_
                rintro e' w6 ⟨v6, rfl, hown6, hb6⟩
                obtain ⟨A9, c9, rfl⟩ := own_slice hown6
                simp only [vOut, outCells, txt, List.length_append, List.length_singleton]
                exact ⟨_, rfl, hb6, Lib.hid (hbw.trans (hb6.mono hbw.size)), A9, c9, rfl⟩
              · rintro y W hB -
                have hz : (zeroValue 40).run Tryz.prog W = .ok (.agg #[.bool false, .int .i64 0, .string ⟨#[]⟩, .int .i64 0, .int .i64 0, .int .i64 0, .int .i64 0, .string ⟨#[]⟩, .slice none 0 0]) W := by kernel_rfl
                have hb1 : Below W.heap.size W (W.alloc (.cells #[.bool false, .int .i64 0, .string ⟨#[]⟩, .int .i64 0, .int .i64 0, .int .i64 0, .int .i64 0, .string ⟨#[]⟩, .slice none 0 0] 40)) := (Below.refl _ _).alloc (Nat.le_refl _) _
                exact sf_new hSoft rfl rfl (v := .pointer (some ⟨W.heap.size, 0, none⟩)) (W' := W.alloc (.cells #[.bool false, .int .i64 0, .string ⟨#[]⟩, .int .i64 0, .int .i64 0, .int .i64 0, .int .i64 0, .string ⟨#[]⟩, .slice none 0 0] 40)) (by simp [execOp, Instr.alloc, hz, go_sem]) hb1 (Lib.hid (hB.out.trans (hb1.mono hB.out.size))) ⟨_, rfl, hB.out.size, Lib.hid (At.new W 40 [.bool false, .int .i64 0, .string ⟨#[]⟩, .int .i64 0, .int .i64 0, .int .i64 0, .int .i64 0, .string ⟨#[]⟩, .slice none 0 0])⟩
              · rintro y W hB hD
                obtain ⟨g, e17, hg, HA⟩ : ∃ g : Nat, y 17 = .pointer (some ⟨g, 0, none⟩) ∧ wr.heap.size ≤ g ∧ Hid (At W g 40 [.bool false, .int .i64 0, .string ⟨#[]⟩, .int .i64 0, .int .i64 0, .int .i64 0, .int .i64 0, .string ⟨#[]⟩, .slice none 0 0]) := deps_at hD 0 { on := 13, ground := .data } rfl (by kernel_rfl)
                have E17 : (putsA y ([87, 88, 89, 90, 91, 92, 93, 94, 95, 96, 97, 98, 99, 17, 17] : List Tmp) a1).eval (.tmp 17) = .pointer (some ⟨g, 0, none⟩) := puts_eval (by decide) hs1 e17
                obtain ⟨A8, c8, e99⟩ : ∃ (A' : Option Addr) (c' : Nat), y 99 = .agg #[.bool false, .int .i64 0, .string ⟨#[]⟩, .int .i64 0, .int .i64 oi, .int .i64 1, .int .i64 om, .string ⟨ot.toArray⟩, .slice A' (us.length + 1) c'] := deps_at hD 1 { on := 12, ground := .data } rfl (by kernel_rfl)
                have E99 : (putsA y ([87, 88, 89, 90, 91, 92, 93, 94, 95, 96, 97, 98, 99, 17, 17] : List Tmp) a1).eval (.tmp 99) = .agg #[.bool false, .int .i64 0, .string ⟨#[]⟩, .int .i64 0, .int .i64 oi, .int .i64 1, .int .i64 om, .string ⟨ot.toArray⟩, .slice A8 (us.length + 1) c8] := puts_eval (by decide) hs1 e99
                refine sf_store rfl rfl 40 (.tmp 17) (.tmp 99) rfl g E17 E99 HA.out (by kernel_rfl) rfl rfl ?_
                intro w' ha hk
                refine ⟨Lib.hid (hB.out.trans (hk.to_below hB.out.size (fun k hk => by omega))), ⟨g, A8, c8, e17, hg, Lib.hid ha⟩, ?_⟩
                intro j hj hL u
                have hj' : j < 15 := hj
                match j, hj', hL with
                | 0, _, hL => exact (Bool.false_ne_true ((show false = liveB _ _ _ _ from by kernel_rfl).trans hL)).elim
                | 1, _, hL => exact (Bool.false_ne_true ((show false = liveB _ _ _ _ from by kernel_rfl).trans hL)).elim
                | 2, _, hL => exact (Bool.false_ne_true ((show false = liveB _ _ _ _ from by kernel_rfl).trans hL)).elim
                | 3, _, hL => exact (Bool.false_ne_true ((show false = liveB _ _ _ _ from by kernel_rfl).trans hL)).elim
                | 4, _, hL => exact (Bool.false_ne_true ((show false = liveB _ _ _ _ from by kernel_rfl).trans hL)).elim
                | 5, _, hL => exact (Bool.false_ne_true ((show false = liveB _ _ _ _ from by kernel_rfl).trans hL)).elim
                | 6, _, hL => exact (Bool.false_ne_true ((show false = liveB _ _ _ _ from by kernel_rfl).trans hL)).elim
                | 7, _, hL => exact (Bool.false_ne_true ((show false = liveB _ _ _ _ from by kernel_rfl).trans hL)).elim
                | 8, _, hL => exact (Bool.false_ne_true ((show false = liveB _ _ _ _ from by kernel_rfl).trans hL)).elim
                | 9, _, hL => exact (Bool.false_ne_true ((show false = liveB _ _ _ _ from by kernel_rfl).trans hL)).elim
                | 10, _, hL => exact (Bool.false_ne_true ((show false = liveB _ _ _ _ from by kernel_rfl).trans hL)).elim
                | 11, _, hL => exact (Bool.false_ne_true ((show false = liveB _ _ _ _ from by kernel_rfl).trans hL)).elim
                | 12, _, hL => exact (Bool.false_ne_true ((show false = liveB _ _ _ _ from by kernel_rfl).trans hL)).elim
                | 13, _, hL => exact (Bool.false_ne_true ((show false = liveB _ _ _ _ from by kernel_rfl).trans hL)).elim
                | 14, _, hL => exact (Bool.false_ne_true ((show false = liveB _ _ _ _ from by kernel_rfl).trans hL)).elim
            rintro y W hB hφ
            obtain ⟨g, A', c', e17, hg, HA⟩ : ∃ (g : Nat) (A' : Option Addr) (c' : Nat), y 17 = .pointer (some ⟨g, 0, none⟩) ∧ wr.heap.size ≤ g ∧ Hid (At W g 40 [.bool false, .int .i64 0, .string ⟨#[]⟩, .int .i64 0, .int .i64 oi, .int .i64 1, .int .i64 om, .string ⟨ot.toArray⟩, .slice A' (us.length + 1) c']) := hφ 14 (by decide) (by decide)
            clear hφ hSoft
            simp only [putsA, e17]
            go_frame
          --END r18
            obtain ⟨wb, rfl⟩ : ∃ wb, wb = W := ⟨_, rfl⟩
            obtain ⟨g1, rfl⟩ : ∃ g1, g1 = g := ⟨_, rfl⟩
            obtain ⟨Ab, rfl⟩ : ∃ Ab, Ab = A' := ⟨_, rfl⟩
            obtain ⟨cb, rfl⟩ : ∃ cb, cb = c' := ⟨_, rfl⟩
            have HAB := Lib.hid HA.out
            have HWB := Lib.hid (HW.out.trans (hB.out.mono HW.out.size))
            have hc1 := (hB.out.cell (by exact hadb2)).trans hc1
            have hadb : (ad.add (j * 7)).block < wb.heap.size := Nat.lt_of_lt_of_le hadb2 hB.out.size
            have hct := fun V (hV : Below wb.heap.size wb V) => copyT_any As ss.length cs ss V ((HS7.out.below HWB.out).below hV) (by omega)
            have hsd := fun V A' c' (hV : Below wb.heap.size wb V) hr => HST2.out V A' (ss.length + 1) c' (ss ++ [xn]) (by omega) hr ((HC7.out.below HWB.out).below hV)
            simp only [HL2.out] at hsd
            have HCT := Lib.hid hct
            have HSD := Lib.hid hsd
            clear hct hsd hB HA HSB
            go_upto_region 19 with fail
          --REG r19
            have hSoft : Softs [isV (.pointer (some ⟨c, 0, none⟩)), isV (.slice As ss.length cs), fun u V => ∃ (A' : Option Addr) (c' : Nat), u = .slice A' (ss.length) c' ∧ Hid (V.ownsRow wb.heap.size 9 1 (.slice A' (ss.length) c') (ss.length) (txts (ss))), isV (.slice (some ad) E.length cl), isV (.int .i64 j), isV (.pointer (some (ad.add (j * 7)))), isV (.pointer (some (ad.add (j * 7)))), isV (.pointer (some ⟨(ad.add (j * 7)).block, (ad.add (j * 7)).off + 1, none⟩)), isV (.string ⟨xn.toArray⟩), fun u V => ∃ g : Nat, u = .slice (some ⟨g, 0, none⟩) 1 1 ∧ Hid (Rd V 1 (some ⟨g, 0, none⟩) 1 (txts ([xn]))), fun u V => ∃ (A' : Option Addr) (c' : Nat), u = .slice A' (ss.length + 1) c' ∧ Hid (V.ownsRow wb.heap.size 9 1 (.slice A' (ss.length + 1) c') (ss.length + 1) (txts (ss ++ [xn]))), isV (.int .i64 links), fun u _ => ∃ (A' : Option Addr) (c' : Nat), u = .agg #[.bool false, .int .i64 0, .string ⟨#[]⟩, .int .i64 0, .int .i64 xi, .int .i64 1, .int .i64 xm, .string ⟨xt.toArray⟩, .slice A' (us.length + 1) c'], fun u V => ∃ g : Nat, u = .pointer (some ⟨g, 0, none⟩) ∧ wb.heap.size ≤ g ∧ Hid (At V g 40 [.bool false, .int .i64 0, .string ⟨#[]⟩, .int .i64 0, .int .i64 0, .int .i64 0, .int .i64 0, .string ⟨#[]⟩, .slice none 0 0]), fun u V => ∃ (g : Nat) (A' : Option Addr) (c' : Nat), u = .pointer (some ⟨g, 0, none⟩) ∧ wb.heap.size ≤ g ∧ Hid (At V g 40 [.bool false, .int .i64 0, .string ⟨#[]⟩, .int .i64 0, .int .i64 xi, .int .i64 1, .int .i64 xm, .string ⟨xt.toArray⟩, .slice A' (us.length + 1) c'])] := ⟨soft_is, soft_is, fun u V V' hb ⟨A', c', e, h⟩ => ⟨A', c', e, Lib.hid (own_below h.out hb)⟩, soft_is, soft_is, soft_is, soft_is, soft_is, soft_is, fun u V V' hb ⟨g, e, h⟩ => ⟨g, e, Lib.hid (h.out.below hb)⟩, fun u V V' hb ⟨A', c', e, h⟩ => ⟨A', c', e, Lib.hid (own_below h.out hb)⟩, soft_is, fun _ _ _ _ h => h, fun u V V' hb ⟨g, e, hg, h⟩ => ⟨g, e, hg, Lib.hid (h.out.below hb)⟩, fun u V V' hb ⟨g, A', c', e, hg, h⟩ => ⟨g, A', c', e, hg, Lib.hid (h.out.below hb)⟩, trivial⟩
            refine wp_region_facts (by kernel_rfl) ([100, 101, 102, 103, 104, 105, 106, 107, 108, 109, 110, 111, 112, 18, 18] : List Tmp) ([12, 2, 10, 5, 5, 6, 7, 8, 9, 10, 12, 12, 14, 14, 15] : List Nat) [isV (.pointer (some ⟨c, 0, none⟩)), isV (.slice As ss.length cs), fun u V => ∃ (A' : Option Addr) (c' : Nat), u = .slice A' (ss.length) c' ∧ Hid (V.ownsRow wb.heap.size 9 1 (.slice A' (ss.length) c') (ss.length) (txts (ss))), isV (.slice (some ad) E.length cl), isV (.int .i64 j), isV (.pointer (some (ad.add (j * 7)))), isV (.pointer (some (ad.add (j * 7)))), isV (.pointer (some ⟨(ad.add (j * 7)).block, (ad.add (j * 7)).off + 1, none⟩)), isV (.string ⟨xn.toArray⟩), fun u V => ∃ g : Nat, u = .slice (some ⟨g, 0, none⟩) 1 1 ∧ Hid (Rd V 1 (some ⟨g, 0, none⟩) 1 (txts ([xn]))), fun u V => ∃ (A' : Option Addr) (c' : Nat), u = .slice A' (ss.length + 1) c' ∧ Hid (V.ownsRow wb.heap.size 9 1 (.slice A' (ss.length + 1) c') (ss.length + 1) (txts (ss ++ [xn]))), isV (.int .i64 links), fun u _ => ∃ (A' : Option Addr) (c' : Nat), u = .agg #[.bool false, .int .i64 0, .string ⟨#[]⟩, .int .i64 0, .int .i64 xi, .int .i64 1, .int .i64 xm, .string ⟨xt.toArray⟩, .slice A' (us.length + 1) c'], fun u V => ∃ g : Nat, u = .pointer (some ⟨g, 0, none⟩) ∧ wb.heap.size ≤ g ∧ Hid (At V g 40 [.bool false, .int .i64 0, .string ⟨#[]⟩, .int .i64 0, .int .i64 0, .int .i64 0, .int .i64 0, .string ⟨#[]⟩, .slice none 0 0]), fun u V => ∃ (g : Nat) (A' : Option Addr) (c' : Nat), u = .pointer (some ⟨g, 0, none⟩) ∧ wb.heap.size ≤ g ∧ Hid (At V g 40 [.bool false, .int .i64 0, .string ⟨#[]⟩, .int .i64 0, .int .i64 xi, .int .i64 1, .int .i64 xm, .string ⟨xt.toArray⟩, .slice A' (us.length + 1) c'])] (fun V => Hid (Below wb.heap.size wb V)) rfl (by simp) (by kernel_rfl) (by kernel_rfl) (by kernel_rfl) ?hB19 ?steps19 ?hend19
            case hB19 => exact Lib.hid (below_drew (Below.refl _ _))
            case steps19 =>
              refine (?gen19 : ∀ a1 : Act, _ = a1 → StepsF _ _ _ _ _ _ a1 _ _) _ rfl
              intro a1 ha1
              have hs1 : ∀ d ∈ ([100, 101, 102, 103, 104, 105, 106, 107, 108, 109, 110, 111, 112, 18, 18] : List Tmp), d < a1.tmps.size := by rw [← ha1]; simp
              have B2 : ∀ y, (putsA y ([100, 101, 102, 103, 104, 105, 106, 107, 108, 109, 110, 111, 112, 18, 18] : List Tmp) a1).tmps[2]?.getD undef = .int .i64 links := fun y => puts_norm0 (by decide) (by rw [← ha1]; rfl)
              have B7 : ∀ y, (putsA y ([100, 101, 102, 103, 104, 105, 106, 107, 108, 109, 110, 111, 112, 18, 18] : List Tmp) a1).tmps[7]?.getD undef = .pointer (some ⟨c, 0, none⟩) := fun y => puts_norm0 (by decide) (by rw [← ha1]; rfl)
              have B10 : ∀ y, (putsA y ([100, 101, 102, 103, 104, 105, 106, 107, 108, 109, 110, 111, 112, 18, 18] : List Tmp) a1).tmps[10]?.getD undef = .slice As ss.length cs := fun y => puts_norm0 (by decide) (by rw [← ha1]; rfl)
              have B15 : ∀ y, (putsA y ([100, 101, 102, 103, 104, 105, 106, 107, 108, 109, 110, 111, 112, 18, 18] : List Tmp) a1).tmps[15]?.getD undef = .slice (some ad) E.length cl := fun y => puts_norm0 (by decide) (by rw [← ha1]; rfl)
              have B16 : ∀ y, (putsA y ([100, 101, 102, 103, 104, 105, 106, 107, 108, 109, 110, 111, 112, 18, 18] : List Tmp) a1).tmps[16]?.getD undef = .int .i64 j := fun y => puts_norm0 (by decide) (by rw [← ha1]; rfl)
              clear ha1
              show StepsF _ _ _ _ _ _ _ _ [_, _, _, _, _, _, _, _, _, _, _, _, _, _, _]
              iterate 15 (with_reducible refine stepsF_cons ?_ ?_; rotate_left)
              with_reducible exact stepsF_nil
              · rintro y W hB -
                exact sf_value hB rfl rfl (v := .pointer (some ⟨c, 0, none⟩)) (by simp [execOp, B7, go_sem]) rfl
              · rintro y W hB -
                exact sf_value hB rfl rfl (v := .slice As ss.length cs) (by simp [execOp, B10, go_sem]) rfl
              · rintro y W hB hD
                have e101 : y 101 = .slice As ss.length cs := deps_at hD 0 { on := 1, ground := .data } rfl (by kernel_rfl)
                have E101 : (putsA y ([100, 101, 102, 103, 104, 105, 106, 107, 108, 109, 110, 111, 112, 18, 18] : List Tmp) a1).eval (.tmp 101) = .slice As ss.length cs := puts_eval (by decide) hs1 e101
                refine sf_enter hSoft rfl rfl (exec_call1 (f := 15) rfl henC E101) ?_
                have hbw : Below wb.heap.size wb W := hB.out
                refine (HCT.out W hbw).mono ?_
                rintro e' w5 ⟨v5, rfl, hown5, hb5⟩
                obtain ⟨A5, c5, rfl⟩ := own_slice hown5
                exact ⟨_, rfl, hb5, Lib.hid (hbw.trans (hb5.mono hbw.size)), A5, c5, rfl, Lib.hid (own_base hown5 hbw.size)⟩
              · rintro y W hB -
                exact sf_value hB rfl rfl (v := .slice (some ad) E.length cl) (by simp [execOp, B15, go_sem]) rfl
              · rintro y W hB -
                exact sf_value hB rfl rfl (v := .int .i64 j) (by simp [execOp, B16, go_sem]) rfl
              · rintro y W hB hD
                have e103 : y 103 = .slice (some ad) E.length cl := deps_at hD 0 { on := 3, ground := .data } rfl (by kernel_rfl)
                have N103 : (putsA y ([100, 101, 102, 103, 104, 105, 106, 107, 108, 109, 110, 111, 112, 18, 18] : List Tmp) a1).tmps[103]?.getD undef = .slice (some ad) E.length cl := puts_norm (by decide) hs1 e103
                have e104 : y 104 = .int .i64 j := deps_at hD 1 { on := 4, ground := .data } rfl (by kernel_rfl)
                have N104 : (putsA y ([100, 101, 102, 103, 104, 105, 106, 107, 108, 109, 110, 111, 112, 18, 18] : List Tmp) a1).tmps[104]?.getD undef = .int .i64 j := puts_norm (by decide) hs1 e104
                exact sf_value hB rfl rfl (v := .pointer (some (ad.add (j * 7)))) (by simp [execOp, N103, N104, hltI, hltI2, go_sem]) rfl
              · rintro y W hB hD
                have e105 : y 105 = .pointer (some (ad.add (j * 7))) := deps_at hD 0 { on := 5, ground := .data } rfl (by kernel_rfl)
                have N105 : (putsA y ([100, 101, 102, 103, 104, 105, 106, 107, 108, 109, 110, 111, 112, 18, 18] : List Tmp) a1).tmps[105]?.getD undef = .pointer (some (ad.add (j * 7))) := puts_norm (by decide) hs1 e105
                exact sf_value hB rfl rfl (v := .pointer (some (ad.add (j * 7)))) (by simp [execOp, N105, go_sem]) rfl
              · rintro y W hB hD
                have e106 : y 106 = .pointer (some (ad.add (j * 7))) := deps_at hD 0 { on := 6, ground := .data } rfl (by kernel_rfl)
                have N106 : (putsA y ([100, 101, 102, 103, 104, 105, 106, 107, 108, 109, 110, 111, 112, 18, 18] : List Tmp) a1).tmps[106]?.getD undef = .pointer (some (ad.add (j * 7))) := puts_norm (by decide) hs1 e106
                exact sf_value hB rfl rfl (v := .pointer (some ⟨(ad.add (j * 7)).block, (ad.add (j * 7)).off + 1, none⟩)) (by simp [execOp, N106, go_sem]) rfl
              · rintro y W hB hD
                have e107 : y 107 = .pointer (some ⟨(ad.add (j * 7)).block, (ad.add (j * 7)).off + 1, none⟩) := deps_at hD 0 { on := 7, ground := .data } rfl (by kernel_rfl)
                have N107 : (putsA y ([100, 101, 102, 103, 104, 105, 106, 107, 108, 109, 110, 111, 112, 18, 18] : List Tmp) a1).tmps[107]?.getD undef = .pointer (some ⟨(ad.add (j * 7)).block, (ad.add (j * 7)).off + 1, none⟩) := puts_norm (by decide) hs1 e107
                have c1 : W.cell? ⟨(ad.add (j * 7)).block, (ad.add (j * 7)).off + 1, none⟩ = some (.string ⟨xn.toArray⟩) := (hB.out.cell (by exact hadb)).trans hc1
                exact sf_value hB rfl rfl (v := .string ⟨xn.toArray⟩) (by simp [execOp, N107, c1, go_sem]) rfl
              · rintro y W hB hD
                have e108 : y 108 = .string ⟨xn.toArray⟩ := deps_at hD 0 { on := 8, ground := .data } rfl (by kernel_rfl)
                have N108 : (putsA y ([100, 101, 102, 103, 104, 105, 106, 107, 108, 109, 110, 111, 112, 18, 18] : List Tmp) a1).tmps[108]?.getD undef = .string ⟨xn.toArray⟩ := puts_norm (by decide) hs1 e108
                have hb1 : Below W.heap.size W (W.alloc (.cells #[.string ⟨xn.toArray⟩] 9)) := (Below.refl _ _).alloc (Nat.le_refl _) _
                refine sf_new hSoft rfl rfl (v := .slice (some ⟨W.heap.size, 0, none⟩) 1 1) (W' := W.alloc (.cells #[.string ⟨xn.toArray⟩] 9)) (by simp [execOp, N108, go_sem]) hb1 (Lib.hid (hB.out.trans (hb1.mono hB.out.size))) ⟨_, rfl, Lib.hid (rd_new W 9 1 1 [.string ⟨xn.toArray⟩] rfl)⟩
              · rintro y W hB hD
                obtain ⟨A5, c5, e102, HO5⟩ : ∃ (A' : Option Addr) (c' : Nat), y 102 = .slice A' (ss.length) c' ∧ Hid (W.ownsRow wb.heap.size 9 1 (.slice A' (ss.length) c') (ss.length) (txts (ss))) := deps_at hD 0 { on := 2, ground := .data } rfl (by kernel_rfl)
                have E102 : (putsA y ([100, 101, 102, 103, 104, 105, 106, 107, 108, 109, 110, 111, 112, 18, 18] : List Tmp) a1).eval (.tmp 102) = .slice A5 ss.length c5 := puts_eval (by decide) hs1 e102
                obtain ⟨g, e109, HG⟩ : ∃ g : Nat, y 109 = .slice (some ⟨g, 0, none⟩) 1 1 ∧ Hid (Rd W 1 (some ⟨g, 0, none⟩) 1 (txts ([xn]))) := deps_at hD 1 { on := 9, ground := .data } rfl (by kernel_rfl)
                have E109 : (putsA y ([100, 101, 102, 103, 104, 105, 106, 107, 108, 109, 110, 111, 112, 18, 18] : List Tmp) a1).eval (.tmp 109) = .slice (some ⟨g, 0, none⟩) 1 1 := puts_eval (by decide) hs1 e109
                have hbw : Below wb.heap.size wb W := hB.out
                refine sf_append rfl rfl (.tmp 102) (.tmp 109) rfl elemTexts E102 HO5.out E109 HG.out (txts_one _) (by unfold maxLen; omega) (by omega) hbw.size ?_
                intro A' c' w' h1 h2 h3
                refine ⟨Lib.hid (bel_app hbw h2 (fun q e => (HO5.out.lt q e).1)), ⟨A', c', rfl, Lib.hid (by rw [txts_append]; exact h1)⟩, ?_⟩
                intro j hj hL u
                have hj' : j < 15 := hj
                match j, hj', hL with
                | 0, _, _ => exact id
                | 1, _, hL => exact (Bool.false_ne_true ((show false = liveB _ _ _ _ from by kernel_rfl).trans hL)).elim
                | 2, _, hL => exact (Bool.false_ne_true ((show false = liveB _ _ _ _ from by kernel_rfl).trans hL)).elim
                | 3, _, _ => exact id
                | 4, _, _ => exact id
                | 5, _, _ => exact id
                | 6, _, _ => exact id
                | 7, _, _ => exact id
                | 8, _, hL => exact (Bool.false_ne_true ((show false = liveB _ _ _ _ from by kernel_rfl).trans hL)).elim
                | 9, _, hL => exact (Bool.false_ne_true ((show false = liveB _ _ _ _ from by kernel_rfl).trans hL)).elim
                | 10, _, hL => exact (Bool.false_ne_true ((show false = liveB _ _ _ _ from by kernel_rfl).trans hL)).elim
                | 11, _, _ => exact id
                | 12, _, hL => exact (Bool.false_ne_true ((show false = liveB _ _ _ _ from by kernel_rfl).trans hL)).elim
                | 13, _, _ => exact fun ⟨g, e, hg, h⟩ => ⟨g, e, hg, Lib.hid (at_other h.out HO5.out (by decide) h2)⟩
                | 14, _, hL => exact (Bool.false_ne_true ((show false = liveB _ _ _ _ from by kernel_rfl).trans hL)).elim
              · rintro y W hB -
                exact sf_value hB rfl rfl (v := .int .i64 links) (by simp [execOp, B2, go_sem]) rfl
              · rintro y W hB hD
                have e100 : y 100 = .pointer (some ⟨c, 0, none⟩) := deps_at hD 0 { on := 0, ground := .data } rfl (by kernel_rfl)
                have E100 : (putsA y ([100, 101, 102, 103, 104, 105, 106, 107, 108, 109, 110, 111, 112, 18, 18] : List Tmp) a1).eval (.tmp 100) = .pointer (some ⟨c, 0, none⟩) := puts_eval (by decide) hs1 e100
                obtain ⟨A6, c6, e110, HO6⟩ : ∃ (A' : Option Addr) (c' : Nat), y 110 = .slice A' (ss.length + 1) c' ∧ Hid (W.ownsRow wb.heap.size 9 1 (.slice A' (ss.length + 1) c') (ss.length + 1) (txts (ss ++ [xn]))) := deps_at hD 1 { on := 10, ground := .data } rfl (by kernel_rfl)
                have E110 : (putsA y ([100, 101, 102, 103, 104, 105, 106, 107, 108, 109, 110, 111, 112, 18, 18] : List Tmp) a1).eval (.tmp 110) = .slice A6 (ss.length + 1) c6 := puts_eval (by decide) hs1 e110
                have e111 : y 111 = .int .i64 links := deps_at hD 2 { on := 11, ground := .data } rfl (by kernel_rfl)
                have E111 : (putsA y ([100, 101, 102, 103, 104, 105, 106, 107, 108, 109, 110, 111, 112, 18, 18] : List Tmp) a1).eval (.tmp 111) = .int .i64 links := puts_eval (by decide) hs1 e111
                have hbw : Below wb.heap.size wb W := hB.out
                refine sf_enter hSoft rfl rfl (exec_call6 (f := 16) rfl henS E100 rfl E110 rfl rfl E111) ?_
                refine (HSD.out W A6 c6 hbw (Rd.of_own HO6.out)).mono ?_
                rintro e' w6 ⟨v6, rfl, hown6, hb6⟩
                obtain ⟨A9, c9, rfl⟩ := own_slice hown6
                simp only [vOut, outCells, txt, List.length_append, List.length_singleton]
                exact ⟨_, rfl, hb6, Lib.hid (hbw.trans (hb6.mono hbw.size)), A9, c9, rfl⟩
              · rintro y W hB -
                have hz : (zeroValue 40).run Tryz.prog W = .ok (.agg #[.bool false, .int .i64 0, .string ⟨#[]⟩, .int .i64 0, .int .i64 0, .int .i64 0, .int .i64 0, .string ⟨#[]⟩, .slice none 0 0]) W := by kernel_rfl
                have hb1 : Below W.heap.size W (W.alloc (.cells #[.bool false, .int .i64 0, .string ⟨#[]⟩, .int .i64 0, .int .i64 0, .int .i64 0, .int .i64 0, .string ⟨#[]⟩, .slice none 0 0] 40)) := (Below.refl _ _).alloc (Nat.le_refl _) _
                exact sf_new hSoft rfl rfl (v := .pointer (some ⟨W.heap.size, 0, none⟩)) (W' := W.alloc (.cells #[.bool false, .int .i64 0, .string ⟨#[]⟩, .int .i64 0, .int .i64 0, .int .i64 0, .int .i64 0, .string ⟨#[]⟩, .slice none 0 0] 40)) (by simp [execOp, Instr.alloc, hz, go_sem]) hb1 (Lib.hid (hB.out.trans (hb1.mono hB.out.size))) ⟨_, rfl, hB.out.size, Lib.hid (At.new W 40 [.bool false, .int .i64 0, .string ⟨#[]⟩, .int .i64 0, .int .i64 0, .int .i64 0, .int .i64 0, .string ⟨#[]⟩, .slice none 0 0])⟩
              · rintro y W hB hD
                obtain ⟨g, e18, hg, HA⟩ : ∃ g : Nat, y 18 = .pointer (some ⟨g, 0, none⟩) ∧ wb.heap.size ≤ g ∧ Hid (At W g 40 [.bool false, .int .i64 0, .string ⟨#[]⟩, .int .i64 0, .int .i64 0, .int .i64 0, .int .i64 0, .string ⟨#[]⟩, .slice none 0 0]) := deps_at hD 0 { on := 13, ground := .data } rfl (by kernel_rfl)
                have E18 : (putsA y ([100, 101, 102, 103, 104, 105, 106, 107, 108, 109, 110, 111, 112, 18, 18] : List Tmp) a1).eval (.tmp 18) = .pointer (some ⟨g, 0, none⟩) := puts_eval (by decide) hs1 e18
                obtain ⟨A8, c8, e112⟩ : ∃ (A' : Option Addr) (c' : Nat), y 112 = .agg #[.bool false, .int .i64 0, .string ⟨#[]⟩, .int .i64 0, .int .i64 xi, .int .i64 1, .int .i64 xm, .string ⟨xt.toArray⟩, .slice A' (us.length + 1) c'] := deps_at hD 1 { on := 12, ground := .data } rfl (by kernel_rfl)
                have E112 : (putsA y ([100, 101, 102, 103, 104, 105, 106, 107, 108, 109, 110, 111, 112, 18, 18] : List Tmp) a1).eval (.tmp 112) = .agg #[.bool false, .int .i64 0, .string ⟨#[]⟩, .int .i64 0, .int .i64 xi, .int .i64 1, .int .i64 xm, .string ⟨xt.toArray⟩, .slice A8 (us.length + 1) c8] := puts_eval (by decide) hs1 e112
                refine sf_store rfl rfl 40 (.tmp 18) (.tmp 112) rfl g E18 E112 HA.out (by kernel_rfl) rfl rfl ?_
                intro w' ha hk
                refine ⟨Lib.hid (hB.out.trans (hk.to_below hB.out.size (fun k hk => by omega))), ⟨g, A8, c8, e18, hg, Lib.hid ha⟩, ?_⟩
                intro j hj hL u
                have hj' : j < 15 := hj
                match j, hj', hL with
                | 0, _, hL => exact (Bool.false_ne_true ((show false = liveB _ _ _ _ from by kernel_rfl).trans hL)).elim
                | 1, _, hL => exact (Bool.false_ne_true ((show false = liveB _ _ _ _ from by kernel_rfl).trans hL)).elim
                | 2, _, hL => exact (Bool.false_ne_true ((show false = liveB _ _ _ _ from by kernel_rfl).trans hL)).elim
                | 3, _, hL => exact (Bool.false_ne_true ((show false = liveB _ _ _ _ from by kernel_rfl).trans hL)).elim
                | 4, _, hL => exact (Bool.false_ne_true ((show false = liveB _ _ _ _ from by kernel_rfl).trans hL)).elim
                | 5, _, hL => exact (Bool.false_ne_true ((show false = liveB _ _ _ _ from by kernel_rfl).trans hL)).elim
                | 6, _, hL => exact (Bool.false_ne_true ((show false = liveB _ _ _ _ from by kernel_rfl).trans hL)).elim
                | 7, _, hL => exact (Bool.false_ne_true ((show false = liveB _ _ _ _ from by kernel_rfl).trans hL)).elim
                | 8, _, hL => exact (Bool.false_ne_true ((show false = liveB _ _ _ _ from by kernel_rfl).trans hL)).elim
                | 9, _, hL => exact (Bool.false_ne_true ((show false = liveB _ _ _ _ from by kernel_rfl).trans hL)).elim
                | 10, _, hL => exact (Bool.false_ne_true ((show false = liveB _ _ _ _ from by kernel_rfl).trans hL)).elim
                | 11, _, hL => exact (Bool.false_ne_true ((show false = liveB _ _ _ _ from by kernel_rfl).trans hL)).elim
                | 12, _, hL => exact (Bool.false_ne_true ((show false = liveB _ _ _ _ from by kernel_rfl).trans hL)).elim
                | 13, _, hL => exact (Bool.false_ne_true ((show false = liveB _ _ _ _ from by kernel_rfl).trans hL)).elim
                | 14, _, hL => exact (Bool.false_ne_true ((show false = liveB _ _ _ _ from by kernel_rfl).trans hL)).elim
            rintro y W hB hφ
            obtain ⟨g, A', c', e18, hg, HA⟩ : ∃ (g : Nat) (A' : Option Addr) (c' : Nat), y 18 = .pointer (some ⟨g, 0, none⟩) ∧ wb.heap.size ≤ g ∧ Hid (At W g 40 [.bool false, .int .i64 0, .string ⟨#[]⟩, .int .i64 0, .int .i64 xi, .int .i64 1, .int .i64 xm, .string ⟨xt.toArray⟩, .slice A' (us.length + 1) c']) := hφ 14 (by decide) (by decide)
            clear hφ hSoft
            simp only [putsA, e18]
            go_frame
          --END r19
            have HW2 := Lib.hid (HWB.out.trans (hB.out.mono HWB.out.size))
            obtain ⟨ad', e', hadb', _, q0, q1, q2, q3, q4, q5, q6⟩ := entry_at (HR7.out.below HW2.out) HX.out
            injection e' with e'
            subst e'
            obtain ⟨b0, b1, b2, b3, b4, b5, b6, b7, b8⟩ := out_cells (o := (false, (0, []), 0, (oi, 1, om, ot), us)) (v := .slice Ab (us.length + 1) cb) (HAB.out.below hB.out)
            obtain ⟨d0, d1, d2, d3, d4, d5, d6, d7, d8⟩ := out_cells (o := (false, (0, []), 0, (xi, 1, xm, xt), us)) (v := .slice A' (us.length + 1) c') HA.out
            obtain ⟨o0, o1, o2, o3, o4, o5, o6, o7, o8⟩ := out_cells (AO7.out.below HW2.out)
            simp only at b0 b1 b2 b3 b4 b5 b6 b7 b8 d0 d1 d2 d3 d4 d5 d6 d7 d8 o0 o1 o2 o3 o4 o5 o6 o7 o8 q0 q1 q2 q3 q4 q5 q6
            have hqn1 : ∀ V : World, (binOp .neq 34 (.agg #[.int .i64 oi, .int .i64 1, .int .i64 om, .string ⟨ot.toArray⟩]) (.agg #[.int .i64 oi, .int .i64 1, .int .i64 om, .string ⟨ot.toArray⟩])).run Tryz.prog V = .ok (.bool false) V := fun V => by
              have := neq_node (oi, 1, om, ot) (oi, 1, om, ot) V
              simpa [vNd, txt] using this
            have hqn2 : ∀ V : World, (binOp .neq 34 (.agg #[.int .i64 xi, .int .i64 1, .int .i64 xm, .string ⟨xt.toArray⟩]) (.agg #[.int .i64 xi, .int .i64 1, .int .i64 xm, .string ⟨xt.toArray⟩])).run Tryz.prog V = .ok (.bool false) V := fun V => by
              have := neq_node (xi, 1, xm, xt) (xi, 1, xm, xt) V
              simpa [vNd, txt] using this
            clear hB HA HAB HWB hc1
            go_upto_region 20 with fail
            go_quiet (fail)
            clear b0 b1 b2 b3 b4 b5 b6 b7 b8 d0 d1 d2 d3 d4 d5 d6 d7 d8 o0 o1 o2 o3 o4 o5 o6 o7 o8 q0 q1 q2 q3 q4 q5 q6
            go_wp2_with fail
            go_roundw
            case rel => exact ⟨j + 1, by omega, by go_num, Lib.hid (below_drewN_ HW2.out _)⟩
            case measure => simp [RowKit.intOf] <;> omega
          · have hkb : (xk != 1) = true := by simpa using hk1
            clear hk1 hx hxc hxk
            go_wp2_with fail
            go_roundw
            case rel => exact ⟨j + 1, by omega, by go_num, HW⟩
            case measure => simp [RowKit.intOf] <;> omega
        · go_wp2_with fail
          refine (awake14 _).mono ?_
          rintro r w8 ⟨rfl, hb8⟩
          go_wp2_with fail
          go_ret
          have hb := HB7.out.trans (HW.out.mono HB7.out.size)
          exact ⟨rfl, hb.trans (hb8.mono hb.size)⟩
    · by_cases he0 : eo = 0
      · subst he0
        have hkb : (ok != 1) = true := by simpa using fun q => hok ⟨rfl, q⟩
        clear hok
        go_wp2_with fail
        refine (awake14 _).mono ?_
        rintro r w8 ⟨rfl, hb8⟩
        go_wp2_with fail
        go_ret
        exact ⟨rfl, HB6.out.trans (hb8.mono HB6.out.size)⟩
      · have heb : (eo != 0) = true := by simpa using he0
        clear hok he0
        go_wp2_with fail
        refine (awake14 _).mono ?_
        rintro r w8 ⟨rfl, hb8⟩
        go_wp2_with fail
        go_ret
        exact ⟨rfl, HB6.out.trans (hb8.mono HB6.out.size)⟩
  · have heb : (er != 0) = true := by simpa using he
    go_wp2_with fail
    refine (awake14 _).mono ?_
    rintro r w9 ⟨rfl, hb9⟩
    go_wp2_with fail
    go_ret
    exact ⟨rfl, HB2.out.trans (hb9.mono HB2.out.size)⟩
end Go.Proofs.YtoacobcbloljkaaGreatDoor
