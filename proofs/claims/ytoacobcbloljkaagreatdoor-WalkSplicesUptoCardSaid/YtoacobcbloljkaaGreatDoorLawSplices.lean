/-
  The walk of the law WalkSplices.
-/
import Derived.Test.YtoacobcbloljkaaGreatDoorFilled
import Derived.Test.YtoacobcbloljkaaGreatDoorWalkPure2
import Derived.Test.YtoacobcbloljkaaGreatDoorAwake14
import Derived.Test.YtoacobcbloljkaaGreatDoorSameOut
import Derived.Test.YtoacobcbloljkaaGreatDoorCopyT
import Derived.Test.YtoacobcbloljkaaGreatDoorPlace
import Derived.Test.YtoacobcbloljkaaGreatDoorRegF
import Derived.Deep.RegionHeld3
import Derived.Deep.DrawnRows
namespace Go.Proofs.YtoacobcbloljkaaGreatDoor
open Go.RowKit

theorem own_lit1 (w : World) (base : Nat) (x : List UInt8) (hb : base ≤ w.heap.size) :
    (w.alloc (.cells #[.string ⟨x.toArray⟩] 9)).ownsRow base 9 1 (.slice (some ⟨w.heap.size, 0, none⟩) 1 1) 1 (txts [x]) :=
  ⟨rfl, .inr ⟨_, 1, _, rfl, hb, heap_alloc_new _ _, Nat.le_refl _, by unfold maxLen; omega, rfl, rfl⟩⟩
theorem rdK_drop {w : World} {ad : Addr} {n : Nat} {k : Key} {ks : List Key} (h : Rd w 2 (some ad) (n + 1) (cKeys (k :: ks))) : Rd w 2 (some (ad.add 2)) n (cKeys ks) := by
  have hl := h.1
  have e : cKeys (k :: ks) = cKey k ++ cKeys ks := by simp [cKeys]
  refine ⟨by rw [e, List.length_append] at hl; have : (cKey k).length = 2 := rfl; omega, fun h0 => ?_⟩
  obtain ⟨ad', e', hb, hc⟩ := h.2 (by omega)
  injection e' with e'
  subst e'
  refine ⟨_, rfl, by rw [add_block]; exact hb, fun j u hu => ?_⟩
  rw [add_assoc_]
  refine hc _ _ ?_
  rw [e, List.getElem?_append_right (by show 2 ≤ 2 + j; omega)]
  have : 2 + j - (cKey k).length = j := by show 2 + j - 2 = j; omega
  rw [this]
  exact hu

/-- The links so far. -/
def linksOf (E : List En) : List En := E.filter fun x => decide (x.2.2.2.1 = 3)
theorem linksOf_step {E : List En} {j : Nat} {x : En} (h : E[j]? = some x) : linksOf (E.take (j + 1)) = linksOf (E.take j) ++ (if x.2.2.2.1 = 3 then [x] else []) := by
  unfold linksOf
  rw [List.take_add_one, h, List.filter_append]
  congr 1
  by_cases q : x.2.2.2.1 = 3 <;> simp [q]

/-- What lies in memory while links are looked for. -/
structure SL (w : World) (N c e h : Nat) (s : Cst) (Al : Option Addr) (m : Nat) (E : List En) (Ar : Option Addr) (nr : Nat) (rest : List (List UInt8)) (v : Value) (fs : List En) (W : World) : Prop where
  ca : CacheAt W c e h s.1 s.2.1 s.2.2
  re : Rd W 7 Al m (cEns E)
  rr : Rd W 1 Ar nr (txts rest)
  ow : W.ownsRow N 36 7 v fs.length (cEns fs)
  bl : Below w.heap.size w W
  hN : w.heap.size ≤ N ∧ N ≤ W.heap.size
  lt : c < N ∧ e < N ∧ h < N
  hl : ∀ ad, Al = some ad → 0 < m → ad.block < N
  hr : ∀ ad, Ar = some ad → 0 < nr → ad.block < N
section
variable {w W W' : World} {N c e h : Nat} {s : Cst} {Al : Option Addr} {m : Nat} {E : List En} {Ar : Option Addr} {nr : Nat} {rest : List (List UInt8)} {v v' : Value} {fs fs' : List En}
theorem SL.push (H : SL w N c e h s Al m E Ar nr rest v fs W) {ob : Obj} (hown : W'.ownsRow N 36 7 v' fs'.length (cEns fs')) (hg : (W.alloc ob).grownBy W' v.ownBlock) : SL w N c e h s Al m E Ar nr rest v' fs' W' := by
  have h1 := H.hN
  obtain ⟨l1, l2, l3⟩ := H.lt
  have hk : Kp (fun k => k < N) W W' := ((Kp.refl _ W).alloc ob).grown hg fun k e _ q => by have := (H.ow.lt k e).1; omega
  exact ⟨H.ca.kp hk l1 l2 l3, H.re.kp0 hk H.hl, H.rr.kp0 hk H.hr, hown, H.bl.trans (hk.to_below H.bl.size fun k hk => by omega), ⟨h1.1, Nat.le_trans h1.2 hk.size⟩, H.lt, H.hl, H.hr⟩
end

/-- What the last region keeps. -/
structure KS (w : World) (ba bb bx : Nat) (nd : Bool) (kd : Int) (kk : List UInt8) (er ni nk nm : Int) (nt : List UInt8) (us : List Key) (xn : List UInt8) (xi xm : Int) (xt : List UInt8) (au : Addr) (c11 : Nat) (A15 : Option Addr) (c15 : Nat) (V : World) : Prop where
  aa : At V ba 40 [.bool nd, .int .i64 kd, .string ⟨kk.toArray⟩, .int .i64 er, .int .i64 ni, .int .i64 nk, .int .i64 nm, .string ⟨nt.toArray⟩, .slice (some au) (us.length + 1) c11]
  ab : At V bb 40 [.bool nd, .int .i64 kd, .string ⟨kk.toArray⟩, .int .i64 er, .int .i64 ni, .int .i64 nk, .int .i64 nm, .string ⟨nt.toArray⟩, .slice A15 us.length c15]
  ax : At V bx 36 (cEn ((1, xn), false, xi, 3, xm, xt))
  hu : Rd V 2 (some au) (us.length + 1) (cKeys ((1, xn) :: us))
  hv : Rd V 2 A15 us.length (cKeys us)
  bl : Below w.heap.size w V
section
variable {w : World} {ba bb bx : Nat} {nd : Bool} {kd : Int} {kk : List UInt8} {er ni nk nm : Int} {nt : List UInt8} {us : List Key} {xn : List UInt8} {xi xm : Int} {xt : List UInt8} {au : Addr} {c11 : Nat} {A15 : Option Addr} {c15 : Nat} {V V' : World}
theorem KS.next (H : KS w ba bb bx nd kd kk er ni nk nm nt us xn xi xm xt au c11 A15 c15 V) (hb : Below V.heap.size V V') : KS w ba bb bx nd kd kk er ni nk nm nt us xn xi xm xt au c11 A15 c15 V' := ⟨H.aa.below hb, H.ab.below hb, H.ax.below hb, H.hu.below hb, H.hv.below hb, H.bl.trans (hb.mono H.bl.size)⟩
theorem KS.kh (H : KS w ba bb bx nd kd kk er ni nk nm nt us xn xi xm xt au c11 A15 c15 V) : ((V.cell? ⟨ba, 0, none⟩ = some (.bool nd) ∧ V.cell? ⟨ba, 1, none⟩ = some (.int .i64 kd) ∧ V.cell? ⟨ba, 2, none⟩ = some (.string ⟨kk.toArray⟩) ∧ V.cell? ⟨ba, 3, none⟩ = some (.int .i64 er) ∧ V.cell? ⟨ba, 4, none⟩ = some (.int .i64 ni) ∧ V.cell? ⟨ba, 5, none⟩ = some (.int .i64 nk) ∧ V.cell? ⟨ba, 6, none⟩ = some (.int .i64 nm) ∧ V.cell? ⟨ba, 7, none⟩ = some (.string ⟨nt.toArray⟩) ∧ V.cell? ⟨ba, 8, none⟩ = some (.slice (some au) (us.length + 1) c11)) ∧ (V.cell? ⟨bb, 0, none⟩ = some (.bool nd) ∧ V.cell? ⟨bb, 1, none⟩ = some (.int .i64 kd) ∧ V.cell? ⟨bb, 2, none⟩ = some (.string ⟨kk.toArray⟩) ∧ V.cell? ⟨bb, 3, none⟩ = some (.int .i64 er) ∧ V.cell? ⟨bb, 4, none⟩ = some (.int .i64 ni) ∧ V.cell? ⟨bb, 5, none⟩ = some (.int .i64 nk) ∧ V.cell? ⟨bb, 6, none⟩ = some (.int .i64 nm) ∧ V.cell? ⟨bb, 7, none⟩ = some (.string ⟨nt.toArray⟩) ∧ V.cell? ⟨bb, 8, none⟩ = some (.slice A15 us.length c15)) ∧ (V.cell? ⟨bx, 0, none⟩ = some (.int .i64 1) ∧ V.cell? ⟨bx, 1, none⟩ = some (.string ⟨xn.toArray⟩)) ∧ (V.cell? au = some (.int .i64 1) ∧ V.cell? ⟨au.block, au.off + 1, none⟩ = some (.string ⟨xn.toArray⟩))) ∧ Hid (KS w ba bb bx nd kd kk er ni nk nm nt us xn xi xm xt au c11 A15 c15 V) := by
  have ca : ∀ j, V.cell? ⟨ba, j, none⟩ = _ := fun j => H.aa.cell j
  have cb : ∀ j, V.cell? ⟨bb, j, none⟩ = _ := fun j => H.ab.cell j
  obtain ⟨ad, k1, n1, e, _, hk, h0, h1⟩ := H.hu.key_at (k := 0) (by omega)
  injection e with e
  subst e
  simp only [List.getElem?_cons_zero, Option.some.injEq, Prod.mk.injEq] at hk
  obtain ⟨rfl, rfl⟩ := hk
  rw [Nat.zero_mul, addr_zero] at h0 h1
  exact ⟨⟨⟨ca 0, ca 1, ca 2, ca 3, ca 4, ca 5, ca 6, ca 7, ca 8⟩, ⟨cb 0, cb 1, cb 2, cb 3, cb 4, cb 5, cb 6, cb 7, cb 8⟩, ⟨H.ax.cell 0, H.ax.cell 1⟩, h0, h1⟩, Lib.hid H⟩
end

attribute [local go_sem ↓] Go.wp_at_zero Go.wp_at_succ

set_option maxRecDepth 100000 in
set_option maxHeartbeats 4000000 in
theorem walkSplices_walk (A : Option Addr) (n cp : Nat) (s : List Tr.Op) (Ar : Option Addr) (nr cr : Nat) (rest : List (List UInt8)) (which : Int) (hw0 : -9223372036854775808 ≤ which) (hw1 : which ≤ 9223372036854775807) (w : World)
    (hs : Rd w 7 A n (cOps s)) (hn : n ≤ 1759218604391) (hrr : Rd w 1 Ar nr (txts rest)) (hnr : nr ≤ 1048576) :
    Calls Tryz.prog 8 #[.slice A n cp, .slice Ar nr cr, .int .i64 which] w fun e w' => e = .returned (.bool true) ∧ Below w.heap.size w w' := by
  have hfi := filled_any w A n cp s hs hn
  generalize Tr.run Tr.t0 s = t at hfi
  have hrl := hrr.txt_len
  have hst := fun V links hl0 hl1 B m cq s2 c e h l wh clk h1 h2 H => steps_any V none B 0 0 m cq [] s2 false true links c e h l wh clk (by omega) h1 hl0 hl1 (Rd.empty _ _ _) h2 H
  have HFI := Lib.hid hfi
  have HST := Lib.hid hst
  have HRR := Lib.hid hrr
  have HRL := Lib.hid hrl
  clear hfi hst hs hrr hrl
  go_enter Tryz.func8, Tryz.ntmps8
  go_wp2_with fail
  refine HFI.out.mono ?_
  rintro r w1 ⟨M, c, e, h, rfl, hf1⟩
  have hgd := hf1.g.at_.good
  have hkf := known_fill hgd
  have hli := treeList_any w1 M t 1 hf1.g.at_
  have hlr : Tr.listR t.L 1 = (Tr.sorted (Tr.ofDir t.L 1), 0) := by
    unfold Tr.listR
    rw [if_neg (by simp [Tr.dirE, Tr.nodeF, Tr.rootN])]
  rw [hlr] at hli
  simp only at hli
  have hmem : ∀ x ∈ Tr.sorted (Tr.ofDir t.L 1), x.2.2.2.1 = 3 → x.1.1 = 1 ∧ x.2.1 = false ∧ Nm.checkE x.1.2 = 0 ∧ (Nm.targetR x.2.2.2.2.2).2.2.2 = 0 ∧ Wk.knT t.L x.1 = some x := fun x hx h3 => by
    unfold Tr.sorted at hx
    obtain ⟨y, hy, rfl⟩ := List.mem_map.1 hx
    have hy2 := (List.mergeSort_perm _ _).mem_iff.1 hy
    obtain ⟨hyL, hy1⟩ := Tr.mem_ofDir.1 hy2
    refine ⟨hy1, rfl, hgd.name y hyL, hgd.link y hyL h3, ?_⟩
    have hpl : Tr.placeE t.L y.1.1 y.1.2 = 0 := by
      rw [Tr.placeE_of_name (Tr.dirE_zero.2 (hgd.dirs y hyL))]
      exact hgd.name y hyL
    show Wk.knT t.L y.1 = some (Tr.enOf y)
    rw [Wk.knT_place hpl, hgd.nowE_mem hyL]
  have hE47 : (Tr.sorted (Tr.ofDir t.L 1)).length ≤ 47 := by
    unfold Tr.sorted
    rw [List.length_map, (List.mergeSort_perm _ _).length_eq]
    exact Nat.le_trans (List.length_filter_le _ _) hgd.len
  have hc1 := hf1.ca
  have hb1 := hf1.g.bl
  obtain ⟨F, hF⟩ : ∃ F, fillS (Tr.dumpR t.L) = F := ⟨_, rfl⟩
  rw [hF] at hkf hc1
  obtain ⟨l, wh, clk⟩ := F
  simp only at hkf hc1
  have hst2 := fun V links hl0 hl1 B m cq s2 h1 h2 Hc => HST.out V links hl0 hl1 B m cq s2 c e h l wh clk h1 h2 Hc
  simp only [hkf] at hst2
  generalize Wk.knT t.L = kn at hst2 hmem
  generalize Tr.sorted (Tr.ofDir t.L 1) = E at hli hmem hE47
  have HST2 := Lib.hid hst2
  have HMEM := Lib.hid hmem
  have HLI := Lib.hid hli
  have HC1 := Lib.hid hc1
  have HB1 := Lib.hid hb1
  have HR1 := Lib.hid (HRR.out.below hb1)
  clear hst2 hmem hli hc1 hkf hF hf1 HFI HST hb1 hlr hgd
  go_wp2_with fail
  refine HLI.out.mono ?_
  rintro r w2 ⟨v2, rfl, hown2, hb2⟩
  obtain ⟨Al, cl, rfl⟩ := own_slice hown2
  have hEl : E.length ≤ maxLen := own_le hown2
  unfold maxLen at hEl
  have hEc := own_cap hown2
  have HSL : Hid (SL w w2.heap.size c e h (l, wh, clk) Al E.length E Ar nr rest (.slice none 0 0) (linksOf (E.take 0)) w2) := by
    have hc2 := HC1.out.below hb2
    refine Lib.hid ⟨hc2, Rd.of_own hown2, HR1.out.below hb2, World.ownsRow_nil _ _ _ _, HB1.out.trans (hb2.mono HB1.out.size), ⟨Nat.le_trans HB1.out.size hb2.size, Nat.le_refl _⟩, ⟨hc2.c_lt, hc2.me.lt, hc2.mw.lt⟩, fun ad e' _ => (own_lt_ hown2 ad e').2, fun ad e' h0 => ?_⟩
    obtain ⟨ad', e2, hb, _⟩ := (HR1.out.below hb2).2 h0
    rw [e'] at e2
    injection e2 with e2
    rw [e2]
    exact hb
  clear hown2 hb2 HLI HC1 HB1 HR1 HRR
  go_wp2_with fail
  go_loopw [12, 13] (fun fv iv wx => ∃ (j : Nat) (Af : Option Addr) (cf : Nat), j ≤ E.length ∧ fv = .slice Af (linksOf (E.take j)).length cf ∧ iv = .int .i64 j ∧ Hid (SL w w2.heap.size c e h (l, wh, clk) Al E.length E Ar nr rest (.slice Af (linksOf (E.take j)).length cf) (linksOf (E.take j)) wx)) (fun _ iv _ => E.length - (RowKit.intOf iv).toNat)
  case atStart => exact ⟨0, none, 0, by omega, rfl, rfl, HSL⟩
  case round =>
    obtain ⟨j, Af, cf, hj, rfl, rfl, HI⟩ := hrel
    by_cases hlt : j < E.length
    · obtain ⟨ad, xd, xn, xg, xi, xk, xm, xt, rfl, hadb, hx, q0, q1, q2, q3, q4, q5, q6⟩ := HI.out.re.en_at hlt
      have hstep := linksOf_step hx
      simp only at hstep
      have hle : (linksOf (E.take j)).length ≤ j := by
        unfold linksOf
        exact Nat.le_trans (List.length_filter_le _ _) (by rw [List.length_take]; omega)
      by_cases hk3 : xk = 3
      · subst hk3
        rw [if_pos rfl] at hstep
        have hro := own_below HI.out.ow ((Below.refl _ wr).alloc (Nat.le_refl _) (.cells #[.int .i64 xd, .string ⟨xn.toArray⟩, .bool xg, .int .i64 xi, .int .i64 3, .int .i64 xm, .string ⟨xt.toArray⟩] 36))
        have HRO := Lib.hid hro
        have HSTEP := Lib.hid hstep
        have hN2 := HI.out.hN.2
        have hb47 : (linksOf (E.take j)).length + 1 ≤ 48 := by omega
        clear hro hstep hx
        go_wp2_with ((with_reducible refine wpList_isBuiltin .append ?_); refine wpList_hold ?_)
        refine Lib.hid ?_
        refine wpList_append_rd rfl _ _ rfl elemEntries (v := .slice Af (linksOf (E.take j)).length cf) rfl HRO.out rfl (rd_new wr 36 7 1 [.int .i64 xd, .string ⟨xn.toArray⟩, .bool xg, .int .i64 xi, .int .i64 3, .int .i64 xm, .string ⟨xt.toArray⟩] rfl) (cEns_one [((xd, xn), xg, xi, 3, xm, xt)]) ?c1 ?c2 ?c3 ?_
        case c1 => unfold maxLen; omega
        case c2 => omega
        case c3 => simp; omega
        intro v7 w7 hown7 hg7 hl7
        obtain ⟨A7, c7, rfl⟩ := own_slice hown7
        have hln : (linksOf (E.take (j + 1))).length = (linksOf (E.take j)).length + 1 := by rw [HSTEP.out]; simp
        have hown : w7.ownsRow w2.heap.size 36 7 (.slice A7 (linksOf (E.take (j + 1))).length c7) (linksOf (E.take (j + 1))).length (cEns (linksOf (E.take (j + 1)))) := by
          rw [hln, HSTEP.out, cEns_append]
          exact hown7
        have HI7 := Lib.hid (HI.out.push hown hg7)
        rw [← hln]
        clear hown hown7 hg7 hl7 q0 q1 q2 q3 q4 q5 q6 HRO hln
        go_wp2_with fail
        go_roundw
        case rel => exact ⟨j + 1, A7, c7, by omega, rfl, by go_num, HI7⟩
        case measure => simp [RowKit.intOf] <;> omega
      · have hkb : (xk == 3) = false := by simpa using hk3
        rw [if_neg hk3, List.append_nil] at hstep
        have HSTEP := Lib.hid hstep
        clear hstep hk3 hx
        go_wp2_with fail
        go_roundw
        case rel => exact ⟨j + 1, Af, cf, by omega, by rw [HSTEP.out], by go_num, by rw [HSTEP.out]; exact HI⟩
        case measure => simp [RowKit.intOf] <;> omega
    · obtain rfl : j = E.length := by omega
      rw [List.take_length] at *
      have hfs : ∀ x ∈ linksOf E, x.1.1 = 1 ∧ x.2.1 = false ∧ x.2.2.2.1 = 3 ∧ Nm.checkE x.1.2 = 0 ∧ (Nm.targetR x.2.2.2.2.2).2.2.2 = 0 ∧ kn x.1 = some x := fun x hx => by
        unfold linksOf at hx
        rw [List.mem_filter, decide_eq_true_eq] at hx
        obtain ⟨a1, a2, a3, a4, a5⟩ := HMEM.out x hx.1 hx.2
        exact ⟨a1, a2, hx.2, a3, a4, a5⟩
      have hf47 : (linksOf E).length ≤ 47 := by
        unfold linksOf
        exact Nat.le_trans (List.length_filter_le _ _) hE47
      generalize linksOf E = fs at hfs HI hf47 ⊢
      have HFS := Lib.hid hfs
      clear hfs hlt
      by_cases hz : fs.length = 0
      · have hzb : ((fs.length : Int) == 0) = true := by simp [hz]
        have hb := HI.out.bl
        go_wp2_with fail
        refine (awake14 _).mono ?_
        rintro r w8 ⟨rfl, hb8⟩
        go_wp2_with fail
        go_ret
        exact ⟨rfl, hb.trans (hb8.mono hb.size)⟩
      · have hzb : ((fs.length : Int) == 0) = false := by rw [beq_eq_false_iff_ne]; omega
        by_cases hr0 : nr = 0
        · have hrb : ((nr : Int) == 0) = true := by simp [hr0]
          have hb := HI.out.bl
          go_wp2_with fail
          refine (awake14 _).mono ?_
          rintro r w8 ⟨rfl, hb8⟩
          go_wp2_with fail
          go_ret
          exact ⟨rfl, hb.trans (hb8.mono hb.size)⟩
        · have hrb : ((nr : Int) == 0) = false := by rw [beq_eq_false_iff_ne]; omega
          have hpl := fun V => place_any which fs.length hw0 hw1 (by omega) (by omega) V
          have hp0 : 0 ≤ which % (fs.length : Int) := Int.emod_nonneg _ (by omega)
          have hp1 : which % (fs.length : Int) < fs.length := Int.emod_lt_of_pos _ (by omega)
          obtain ⟨k, hk⟩ : ∃ k : Nat, which % (fs.length : Int) = k := ⟨(which % (fs.length : Int)).toNat, by omega⟩
          rw [hk] at hpl hp0 hp1
          have hkl : k < fs.length := by omega
          obtain ⟨ad, xd, xn, xg, xi, xk, xm, xt, rfl, hadb, hx, q0, q1, q2, q3, q4, q5, q6⟩ := (Rd.of_own HI.out.ow).en_at hkl
          obtain ⟨g1, g2, g3, g4, g5, g6⟩ := HFS.out _ (List.mem_of_getElem? hx)
          simp only at g1 g2 g3 g4 g5 g6
          subst g1 g2 g3
          have HPL := Lib.hid hpl
          have hrne : rest ≠ [] := by
            rintro rfl
            have := HRL.out
            simp at this
            omega
          have hspl := Wk.splice kn g4 g6 rfl rfl g5 hrne 4
          have htg := fun V => target_text ⟨xt.toArray⟩ V
          simp only [toList_mk] at htg
          have htl := Nm.targetR_len xt
          simp only at hspl g5
          generalize Nm.targetR xt = R at htg htl hspl g5
          obtain ⟨r1, r2, r3, r4⟩ := R
          simp only at htg htl hspl g5
          subst g5
          obtain ⟨b, hb⟩ : ∃ b, Wk.steps kn true 4 (r1 ++ rest) [rootNd] false [] = b := ⟨_, rfl⟩
          rw [hb] at hspl
          obtain ⟨nd, ⟨kd, kk⟩, er, ⟨ni, nk, nm, nt⟩, us⟩ := b
          have e5 : (min (max (5 : Int) 0) 8).toNat = 5 := by decide
          have e4 : (min (max (4 : Int) 0) 8).toNat = 4 := by decide
          have h5 := fun V B m cq h1 h2 Hc => HST2.out V 5 (by omega) (by omega) B m cq (xn :: rest) h1 h2 Hc
          have h4 := fun V B m cq h1 h2 Hc => HST2.out V 4 (by omega) (by omega) B m cq (r1 ++ rest) h1 h2 Hc
          simp only [e5, hspl, Wk.addU] at h5
          simp only [e4, hb] at h4
          have hus := Wk.steps_len kn true 4 (r1 ++ rest) [rootNd] false []
          rw [hb] at hus
          simp only [Wk.outUsed, List.length_nil, List.length_append, HRL.out] at hus
          have hus2 : us.length ≤ 1100000 := by omega
          clear hus
          have H5 := Lib.hid h5
          have H4 := Lib.hid h4
          have HTG := Lib.hid htg
          have hbl := HI.out.bl
          have HBL := Lib.hid hbl
          have HCA := Lib.hid HI.out.ca
          have HRE := Lib.hid HI.out.rr
          have hlk : (k : Int) < (fs.length : Int) := by omega
          clear hpl hk hx g4 g6 hspl htg hb h5 h4 hbl HFS HST2 HMEM HI
          go_wp2_with fail
          refine (HPL.out _).mono ?_
          rintro r w3 ⟨rfl, rfl⟩
          have hb8 : Below wr.heap.size wr (wr.alloc (.cells #[.int .i64 1, .string ⟨xn.toArray⟩, .bool false, .int .i64 xi, .int .i64 3, .int .i64 xm, .string ⟨xt.toArray⟩] 36)) := (Below.refl _ _).alloc (Nat.le_refl _) _
          have AX : Hid (At (wr.alloc (.cells #[.int .i64 1, .string ⟨xn.toArray⟩, .bool false, .int .i64 xi, .int .i64 3, .int .i64 xm, .string ⟨xt.toArray⟩] 36)) wr.heap.size 36 (cEn ((1, xn), false, xi, 3, xm, xt))) := Lib.hid (At.new wr 36 (cEn ((1, xn), false, xi, 3, xm, xt)))
          have HC8 := Lib.hid (HCA.out.below hb8)
          have HR8 := Lib.hid (HRE.out.below hb8)
          have HB8 := Lib.hid (HBL.out.trans (hb8.mono HBL.out.size))
          go_upto_region 14 with fail
          obtain ⟨w8, hw8⟩ : ∃ w8, wr.alloc (.cells #[.int .i64 1, .string ⟨xn.toArray⟩, .bool false, .int .i64 xi, .int .i64 3, .int .i64 xm, .string ⟨xt.toArray⟩] 36) = w8 := ⟨_, rfl⟩
          rw [hw8] at AX HC8 HR8 HB8 ⊢
          obtain ⟨bx, hbx⟩ : ∃ bx, wr.heap.size = bx := ⟨_, rfl⟩
          rw [hbx] at AX ⊢
          clear hw8 hb8 hbx HCA HRE HBL q0 q1 q2 q3 q4 q5 q6 HPL
          obtain ⟨x0, x1, x2, x3, x4, x5, x6⟩ := en_cells AX.out
          simp only [txt] at x0 x1 x2 x3 x4 x5 x6
          go_wp2_with fail
          refine (HTG.out _).mono ?_
          rintro r w9 ⟨v9, rfl, hown9, hb9⟩
          obtain ⟨A9, c9, rfl⟩ := own_slice hown9
          have HT9 := Lib.hid (Rd.of_own hown9)
          have AX9 := Lib.hid (AX.out.below hb9)
          have HC9 := Lib.hid (HC8.out.below hb9)
          have HR9 := Lib.hid (HR8.out.below hb9)
          have HB9 := Lib.hid (HB8.out.trans (hb9.mono HB8.out.size))
          clear hown9 hb9 AX HC8 HR8 HB8 HTG x0 x1 x2 x3 x4 x5 x6
          obtain ⟨x0, x1, x2, x3, x4, x5, x6⟩ := en_cells AX9.out
          simp only [txt] at x0 x1 x2 x3 x4 x5 x6
          have hba : Below w9.heap.size w9 (w9.alloc (.cells #[.string ⟨xn.toArray⟩] 9)) := (Below.refl _ _).alloc (Nat.le_refl _) _
          go_wp2_with ((with_reducible refine wpList_isBuiltin .append ?_); refine wpList_hold ?_)
          refine Lib.hid ?_
          refine wpList_append_rd rfl _ _ rfl elemTexts (v := .slice (some ⟨w9.heap.size, 0, none⟩) 1 1) rfl (own_lit1 w9 w9.heap.size xn (Nat.le_refl _)) rfl (HR9.out.below hba) (txts_one _) ?c1 ?c2 ?c3 ?_
          case c1 => unfold maxLen; omega
          case c2 => omega
          case c3 => exact hba.size
          intro v10 w10 hown10 hg10 hl10
          obtain ⟨A10, c10, rfl⟩ := own_slice hown10
          rw [← txts_append] at hown10
          have hba2 : Below w9.heap.size w9 w10 := hba.grown hg10 hba.size (fun q e' => by
            simp only [Value.ownBlock, Option.some.injEq] at e'
            omega)
          have HX10 := Lib.hid (Rd.of_own hown10)
          have HC10 := Lib.hid (HC9.out.below hba2)
          clear hown10 hg10 hl10 hba
          go_wp2_with fail
          refine (H5.out w10 A10 (1 + nr) c10 (by omega) HX10.out HC10.out).mono ?_
          rintro r w11 ⟨v11, rfl, hown11, hb11⟩
          obtain ⟨A11, c11, rfl⟩ := own_slice hown11
          have hle11 := own_le hown11
          have hcap11 := own_cap hown11
          simp only [vOut, outCells, txt, List.length_append, List.length_singleton] at hown11 hle11 hcap11 ⊢
          have HCAP : Hid (us.length + 1 ≤ c11 ∧ c11 ≤ maxLen) := Lib.hid ⟨by omega, hcap11.2⟩
          rw [show [((1, xn) : Key)] ++ us = (1, xn) :: us from rfl, show 1 + us.length = us.length + 1 from by omega] at hown11
          rw [show 1 + us.length = us.length + 1 from by omega]
          have HU11 := Lib.hid (Rd.of_own hown11)
          have hbb : Below w9.heap.size w9 w11 := hba2.trans (hb11.mono hba2.size)
          have hbo : Below w11.heap.size w11 (w11.alloc (.cells #[.bool nd, .int .i64 kd, .string ⟨kk.toArray⟩, .int .i64 er, .int .i64 ni, .int .i64 nk, .int .i64 nm, .string ⟨nt.toArray⟩, .slice A11 (us.length + 1) c11] 40)) := (Below.refl _ _).alloc (Nat.le_refl _) _
          have hb912 : Below w9.heap.size w9 (w11.alloc (.cells #[.bool nd, .int .i64 kd, .string ⟨kk.toArray⟩, .int .i64 er, .int .i64 ni, .int .i64 nk, .int .i64 nm, .string ⟨nt.toArray⟩, .slice A11 (us.length + 1) c11] 40)) := hbb.trans (hbo.mono hbb.size)
          have AA : Hid (At (w11.alloc (.cells #[.bool nd, .int .i64 kd, .string ⟨kk.toArray⟩, .int .i64 er, .int .i64 ni, .int .i64 nk, .int .i64 nm, .string ⟨nt.toArray⟩, .slice A11 (us.length + 1) c11] 40)) w11.heap.size 40 [.bool nd, .int .i64 kd, .string ⟨kk.toArray⟩, .int .i64 er, .int .i64 ni, .int .i64 nk, .int .i64 nm, .string ⟨nt.toArray⟩, .slice A11 (us.length + 1) c11]) := Lib.hid (At.new w11 40 _)
          have HU12 := Lib.hid (HU11.out.below hbo)
          have AX12 := Lib.hid (AX9.out.below hb912)
          have HC12 := Lib.hid (HC9.out.below hb912)
          have HR12 := Lib.hid (HR9.out.below hb912)
          have HT12 := Lib.hid (HT9.out.below hb912)
          have HB12 := Lib.hid (HB9.out.trans (hb912.mono HB9.out.size))
          clear hown11 hle11 hcap11 hb11 HX10 HC10 H5 x0 x1 x2 x3 x4 x5 x6
          go_upto_region 18 with fail
          obtain ⟨w12, hw12⟩ : ∃ w12, w11.alloc (.cells #[.bool nd, .int .i64 kd, .string ⟨kk.toArray⟩, .int .i64 er, .int .i64 ni, .int .i64 nk, .int .i64 nm, .string ⟨nt.toArray⟩, .slice A11 (us.length + 1) c11] 40) = w12 := ⟨_, rfl⟩
          rw [hw12] at AA HU12 AX12 HC12 HR12 HT12 HB12 ⊢
          obtain ⟨ba, hbaa⟩ : ∃ ba, w11.heap.size = ba := ⟨_, rfl⟩
          rw [hbaa] at AA ⊢
          clear hw12 hbaa hba2 hbb hbo hb912 HU11 AX9 HC9 HR9 HT9 HB9
          go_wp2_with fail
          refine (copyT_any A9 r1.length c9 r1 w12 HT12.out (by omega)).mono ?_
          rintro r w13 ⟨v13, rfl, hown13, hb13⟩
          obtain ⟨A13, c13, rfl⟩ := own_slice hown13
          go_wp2_with ((with_reducible refine wpList_isBuiltin .append ?_); refine wpList_hold ?_)
          refine Lib.hid ?_
          refine wpList_append_rd rfl _ _ rfl elemTexts (v := .slice A13 r1.length c13) rfl hown13 rfl (HR12.out.below hb13) (txts_one _) ?c1 ?c2 ?c3 ?_
          case c1 => unfold maxLen; omega
          case c2 => omega
          case c3 => exact hb13.size
          intro v14 w14 hown14 hg14 hl14
          obtain ⟨A14, c14, rfl⟩ := own_slice hown14
          rw [← txts_append] at hown14
          have hb14 : Below w12.heap.size w12 w14 := hb13.grown hg14 hb13.size (fun q e' => (hown13.lt q e').1)
          have HX14 := Lib.hid (Rd.of_own hown14)
          have HC14 := Lib.hid (HC12.out.below hb14)
          clear hown13 hown14 hg14 hl14 hb13
          go_wp2_with fail
          refine (H4.out w14 A14 (r1.length + nr) c14 (by omega) HX14.out HC14.out).mono ?_
          rintro r w15 ⟨v15, rfl, hown15, hb15⟩
          obtain ⟨A15, c15, rfl⟩ := own_slice hown15
          simp only [vOut, outCells, txt] at hown15 ⊢
          have hbb : Below w12.heap.size w12 w15 := hb14.trans (hb15.mono hb14.size)
          have hbo : Below w15.heap.size w15 (w15.alloc (.cells #[.bool nd, .int .i64 kd, .string ⟨kk.toArray⟩, .int .i64 er, .int .i64 ni, .int .i64 nk, .int .i64 nm, .string ⟨nt.toArray⟩, .slice A15 us.length c15] 40)) := (Below.refl _ _).alloc (Nat.le_refl _) _
          have hb1216 : Below w12.heap.size w12 (w15.alloc (.cells #[.bool nd, .int .i64 kd, .string ⟨kk.toArray⟩, .int .i64 er, .int .i64 ni, .int .i64 nk, .int .i64 nm, .string ⟨nt.toArray⟩, .slice A15 us.length c15] 40)) := hbb.trans (hbo.mono hbb.size)
          have AB : Hid (At (w15.alloc (.cells #[.bool nd, .int .i64 kd, .string ⟨kk.toArray⟩, .int .i64 er, .int .i64 ni, .int .i64 nk, .int .i64 nm, .string ⟨nt.toArray⟩, .slice A15 us.length c15] 40)) w15.heap.size 40 [.bool nd, .int .i64 kd, .string ⟨kk.toArray⟩, .int .i64 er, .int .i64 ni, .int .i64 nk, .int .i64 nm, .string ⟨nt.toArray⟩, .slice A15 us.length c15]) := Lib.hid (At.new w15 40 _)
          have HV16 := Lib.hid ((Rd.of_own hown15).below hbo)
          have HU16 := Lib.hid (HU12.out.below hb1216)
          have AA16 := Lib.hid (AA.out.below hb1216)
          have AX16 := Lib.hid (AX12.out.below hb1216)
          have HB16 := Lib.hid (HB12.out.trans (hb1216.mono HB12.out.size))
          clear hown15 hb15 HX14 HC14 H4
          go_upto_region 19 with fail
          obtain ⟨w16, hw16⟩ : ∃ w16, w15.alloc (.cells #[.bool nd, .int .i64 kd, .string ⟨kk.toArray⟩, .int .i64 er, .int .i64 ni, .int .i64 nk, .int .i64 nm, .string ⟨nt.toArray⟩, .slice A15 us.length c15] 40) = w16 := ⟨_, rfl⟩
          rw [hw16] at AB HV16 HU16 AA16 AX16 HB16 ⊢
          obtain ⟨bb, hbbb⟩ : ∃ bb, w15.heap.size = bb := ⟨_, rfl⟩
          rw [hbbb] at AB ⊢
          clear hw16 hbbb hb14 hbb hbo hb1216 HU12 AX12 HC12 HR12 HT12 HB12 AA
          obtain ⟨au, kd1, kn1, rfl, haub, hk0, hu0, hu1⟩ := HU16.out.key_at (k := 0) (by omega)
          simp only [List.getElem?_cons_zero, Option.some.injEq, Prod.mk.injEq] at hk0
          obtain ⟨rfl, rfl⟩ := hk0
          clear hu0 hu1
          by_cases hcc : c11 = 1
          · have HUS : Hid (us = []) := List.eq_nil_of_length_eq_zero (by have := HCAP.out.1; omega)
            have HKS : Hid (KS w ba bb bx nd kd kk er ni nk nm nt us xn xi xm xt au c11 A15 c15 w16) := Lib.hid ⟨AA16.out, AB.out, AX16.out, HU16.out, HV16.out, HB16.out⟩
            have hsk : ∀ V c d, KS w ba bb bx nd kd kk er ni nk nm nt us xn xi xm xt au c11 A15 c15 V → Calls Tryz.prog 33 #[.slice (some au) us.length c, .slice A15 us.length d] V fun r w' => r = .returned (.bool true) ∧ Below V.heap.size V w' := fun V c d H => by
              refine (sameKeys_any (some au) A15 us.length us.length c d us us V (by rw [HUS.out]; exact Rd.empty _ _ _) H.hv (by unfold maxLen; omega)).mono ?_
              rintro r w' ⟨rfl, q, rfl⟩
              exact ⟨by simp, below_drewN_ (Below.refl _ _) q⟩
            have HSK := Lib.hid hsk
            have hqn : ∀ V : World, (binOp .eql 34 (.agg #[.int .i64 ni, .int .i64 nk, .int .i64 nm, .string ⟨nt.toArray⟩]) (.agg #[.int .i64 ni, .int .i64 nk, .int .i64 nm, .string ⟨nt.toArray⟩])).run Tryz.prog V = .ok (.bool true) V := fun V => by
              have := eql_node (ni, nk, nm, nt) (ni, nk, nm, nt) V
              simpa [vNd, txt] using this
            have hqk : ∀ V : World, (binOp .eql 32 (.agg #[.int .i64 1, .string ⟨xn.toArray⟩]) (.agg #[.int .i64 1, .string ⟨xn.toArray⟩])).run Tryz.prog V = .ok (.bool true) V := fun V => by
              have := eql_key (1, xn) (1, xn) V
              simpa [vKey, txt] using this
            have hc11 : us.length + 1 ≤ c11 := HCAP.out.1
            have hc11b : c11 ≤ 9223372036854775807 := HCAP.out.2
            clear hsk AA16 AB AX16 HU16 HV16 HB16
            have hlt1 : ((us.length : Int) + 1 < 1) = False := eq_false (by omega)
            have hlt2 : (1 : Int) ≤ (us.length : Int) + 1 := by omega
            have hlt3 : (0 : Int) ≤ (us.length : Int) := by omega
            have hwr : IntKind.i64.wrap ((us.length : Int) + 1) = (us.length : Int) + 1 := by rw [IntKind.wrap_i64]; omega
            have hle1 : (((us.length + 1 : Nat) : Int) == (us.length : Int) + 1) = true := by simp
            have hle2 : ((us.length : Int) + 1 == (us.length : Int) + 1) = true := by simp
            have hle3 : ((us.length : Int) + 1 == IntKind.i64.wrap ((us.length : Int) + 1)) = true := by rw [hwr]; simp
            go_region_held3 (fun V => ((V.cell? ⟨ba, 0, none⟩ = some (.bool nd) ∧ V.cell? ⟨ba, 1, none⟩ = some (.int .i64 kd) ∧ V.cell? ⟨ba, 2, none⟩ = some (.string ⟨kk.toArray⟩) ∧ V.cell? ⟨ba, 3, none⟩ = some (.int .i64 er) ∧ V.cell? ⟨ba, 4, none⟩ = some (.int .i64 ni) ∧ V.cell? ⟨ba, 5, none⟩ = some (.int .i64 nk) ∧ V.cell? ⟨ba, 6, none⟩ = some (.int .i64 nm) ∧ V.cell? ⟨ba, 7, none⟩ = some (.string ⟨nt.toArray⟩) ∧ V.cell? ⟨ba, 8, none⟩ = some (.slice (some au) (us.length + 1) c11)) ∧ (V.cell? ⟨bb, 0, none⟩ = some (.bool nd) ∧ V.cell? ⟨bb, 1, none⟩ = some (.int .i64 kd) ∧ V.cell? ⟨bb, 2, none⟩ = some (.string ⟨kk.toArray⟩) ∧ V.cell? ⟨bb, 3, none⟩ = some (.int .i64 er) ∧ V.cell? ⟨bb, 4, none⟩ = some (.int .i64 ni) ∧ V.cell? ⟨bb, 5, none⟩ = some (.int .i64 nk) ∧ V.cell? ⟨bb, 6, none⟩ = some (.int .i64 nm) ∧ V.cell? ⟨bb, 7, none⟩ = some (.string ⟨nt.toArray⟩) ∧ V.cell? ⟨bb, 8, none⟩ = some (.slice A15 us.length c15)) ∧ (V.cell? ⟨bx, 0, none⟩ = some (.int .i64 1) ∧ V.cell? ⟨bx, 1, none⟩ = some (.string ⟨xn.toArray⟩)) ∧ (V.cell? au = some (.int .i64 1) ∧ V.cell? ⟨au.block, au.off + 1, none⟩ = some (.string ⟨xn.toArray⟩))) ∧ Hid (KS w ba bb bx nd kd kk er ni nk nm nt us xn xi xm xt au c11 A15 c15 V))
              (first
                | exact (KS.next HKS.out (below_drew (Below.refl _ _))).kh
                | exact (KS.next (Hid.out (And.right (by assumption))) (Hid.out (by assumption))).kh)
              (first
                | (go_at_call 33; (with_reducible refine (HSK.out _ _ _ (Hid.out (And.right (by assumption)))).mono ?_); rintro r w7 ⟨rfl, hb7⟩; have HB7 := Lib.hid hb7; clear hb7)
                | (go_at_call 22; refine (awake14 _).mono ?_; rintro r w9 ⟨rfl, hb9⟩; have HB9 := Lib.hid hb9; clear hb9))
            have hfin : Below w.heap.size w w9 := KS.bl (Hid.out (And.right (by assumption)))
            go_wp2_with fail
            go_ret
            exact ⟨rfl, hfin⟩
          · skip
            have HKS : Hid (KS w ba bb bx nd kd kk er ni nk nm nt us xn xi xm xt au c11 A15 c15 w16) := Lib.hid ⟨AA16.out, AB.out, AX16.out, HU16.out, HV16.out, HB16.out⟩
            have hsk : ∀ V c d, KS w ba bb bx nd kd kk er ni nk nm nt us xn xi xm xt au c11 A15 c15 V → Calls Tryz.prog 33 #[.slice (some ⟨au.block, au.off + 2, none⟩) us.length c, .slice A15 us.length d] V fun r w' => r = .returned (.bool true) ∧ Below V.heap.size V w' := fun V c d H => by
              refine (sameKeys_any (some ⟨au.block, au.off + 2, none⟩) A15 us.length us.length c d us us V (by have := rdK_drop H.hu; rwa [add_at _ _ (by decide)] at this) H.hv (by unfold maxLen; omega)).mono ?_
              rintro r w' ⟨rfl, q, rfl⟩
              exact ⟨by simp, below_drewN_ (Below.refl _ _) q⟩
            have HSK := Lib.hid hsk
            have hqn : ∀ V : World, (binOp .eql 34 (.agg #[.int .i64 ni, .int .i64 nk, .int .i64 nm, .string ⟨nt.toArray⟩]) (.agg #[.int .i64 ni, .int .i64 nk, .int .i64 nm, .string ⟨nt.toArray⟩])).run Tryz.prog V = .ok (.bool true) V := fun V => by
              have := eql_node (ni, nk, nm, nt) (ni, nk, nm, nt) V
              simpa [vNd, txt] using this
            have hqk : ∀ V : World, (binOp .eql 32 (.agg #[.int .i64 1, .string ⟨xn.toArray⟩]) (.agg #[.int .i64 1, .string ⟨xn.toArray⟩])).run Tryz.prog V = .ok (.bool true) V := fun V => by
              have := eql_key (1, xn) (1, xn) V
              simpa [vKey, txt] using this
            have hc11 : us.length + 1 ≤ c11 := HCAP.out.1
            have hc11b : c11 ≤ 9223372036854775807 := HCAP.out.2
            clear hsk AA16 AB AX16 HU16 HV16 HB16
            have hlt1 : ((us.length : Int) + 1 < 1) = False := eq_false (by omega)
            have hlt2 : (1 : Int) ≤ (us.length : Int) + 1 := by omega
            have hlt3 : (0 : Int) ≤ (us.length : Int) := by omega
            have hwr : IntKind.i64.wrap ((us.length : Int) + 1) = (us.length : Int) + 1 := by rw [IntKind.wrap_i64]; omega
            have hle1 : (((us.length + 1 : Nat) : Int) == (us.length : Int) + 1) = true := by simp
            have hle2 : ((us.length : Int) + 1 == (us.length : Int) + 1) = true := by simp
            have hle3 : ((us.length : Int) + 1 == IntKind.i64.wrap ((us.length : Int) + 1)) = true := by rw [hwr]; simp
            go_region_held3 (fun V => ((V.cell? ⟨ba, 0, none⟩ = some (.bool nd) ∧ V.cell? ⟨ba, 1, none⟩ = some (.int .i64 kd) ∧ V.cell? ⟨ba, 2, none⟩ = some (.string ⟨kk.toArray⟩) ∧ V.cell? ⟨ba, 3, none⟩ = some (.int .i64 er) ∧ V.cell? ⟨ba, 4, none⟩ = some (.int .i64 ni) ∧ V.cell? ⟨ba, 5, none⟩ = some (.int .i64 nk) ∧ V.cell? ⟨ba, 6, none⟩ = some (.int .i64 nm) ∧ V.cell? ⟨ba, 7, none⟩ = some (.string ⟨nt.toArray⟩) ∧ V.cell? ⟨ba, 8, none⟩ = some (.slice (some au) (us.length + 1) c11)) ∧ (V.cell? ⟨bb, 0, none⟩ = some (.bool nd) ∧ V.cell? ⟨bb, 1, none⟩ = some (.int .i64 kd) ∧ V.cell? ⟨bb, 2, none⟩ = some (.string ⟨kk.toArray⟩) ∧ V.cell? ⟨bb, 3, none⟩ = some (.int .i64 er) ∧ V.cell? ⟨bb, 4, none⟩ = some (.int .i64 ni) ∧ V.cell? ⟨bb, 5, none⟩ = some (.int .i64 nk) ∧ V.cell? ⟨bb, 6, none⟩ = some (.int .i64 nm) ∧ V.cell? ⟨bb, 7, none⟩ = some (.string ⟨nt.toArray⟩) ∧ V.cell? ⟨bb, 8, none⟩ = some (.slice A15 us.length c15)) ∧ (V.cell? ⟨bx, 0, none⟩ = some (.int .i64 1) ∧ V.cell? ⟨bx, 1, none⟩ = some (.string ⟨xn.toArray⟩)) ∧ (V.cell? au = some (.int .i64 1) ∧ V.cell? ⟨au.block, au.off + 1, none⟩ = some (.string ⟨xn.toArray⟩))) ∧ Hid (KS w ba bb bx nd kd kk er ni nk nm nt us xn xi xm xt au c11 A15 c15 V))
              (first
                | exact (KS.next HKS.out (below_drew (Below.refl _ _))).kh
                | exact (KS.next (Hid.out (And.right (by assumption))) (Hid.out (by assumption))).kh)
              (first
                | (go_at_call 33; (with_reducible refine (HSK.out _ _ _ (Hid.out (And.right (by assumption)))).mono ?_); rintro r w7 ⟨rfl, hb7⟩; have HB7 := Lib.hid hb7; clear hb7)
                | (go_at_call 22; refine (awake14 _).mono ?_; rintro r w9 ⟨rfl, hb9⟩; have HB9 := Lib.hid hb9; clear hb9))
            have hfin : Below w.heap.size w w9 := KS.bl (Hid.out (And.right (by assumption)))
            go_wp2_with fail
            go_ret
            exact ⟨rfl, hfin⟩
end Go.Proofs.YtoacobcbloljkaaGreatDoor
