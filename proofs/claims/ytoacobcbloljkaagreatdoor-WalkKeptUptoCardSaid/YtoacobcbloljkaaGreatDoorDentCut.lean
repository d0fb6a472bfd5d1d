/-
  The walk of dent's Cut.
-/
import Derived.Test.YtoacobcbloljkaaGreatDoorDentEvict
import Derived.Test.YtoacobcbloljkaaGreatDoorWalkLow
import Derived.Deep.LoopGhost
namespace Go.Proofs.YtoacobcbloljkaaGreatDoor
open Go.RowKit

abbrev DentS := List (Key × (En × Int)) × List (Int × Bool)
/-- One key is cut. -/
def cutOne (s : DentS) (k : Key) : DentS := (if k.2 = [] then s.1.filter (fun p => !decide (p.1.1 = k.1)) else alDel s.1 k, alDel s.2 k.1)
def cutAll (ks : List Key) (s : DentS) : DentS := ks.foldl cutOne s

theorem cutAll_step (ks : List Key) (s : DentS) {j : Nat} {k : Key} (h : ks[j]? = some k) : cutAll (ks.take (j + 1)) s = cutOne (cutAll (ks.take j) s) k := by
  unfold cutAll
  rw [List.take_add_one, h]
  simp




/-- The entries of a directory are being taken away: those that are still to come are there. -/
def cutLeft (l1 : List (Key × (En × Int))) (d : Int) (rem : List (Key × (En × Int))) : List (Key × (En × Int)) := l1.filter (fun p => !decide (p.1.1 = d) || decide (p.1 ∈ rem.map Prod.fst))

theorem cutLeft_all (l1 : List (Key × (En × Int))) (d : Int) : cutLeft l1 d l1 = l1 := by
  unfold cutLeft
  rw [List.filter_eq_self]
  intro p hp
  simp only [Bool.or_eq_true, decide_eq_true_eq]
  exact .inr (List.mem_map_of_mem hp)
theorem cutLeft_none (l1 : List (Key × (En × Int))) (d : Int) : cutLeft l1 d [] = l1.filter (fun p => !decide (p.1.1 = d)) := by
  unfold cutLeft
  congr 1
  funext p
  simp
theorem cutLeft_keep {l1 rem rem' : List (Key × (En × Int))} {d : Int} {p : Key × (En × Int)} (hp : rem.Perm (p :: rem')) (hd : p.1.1 ≠ d) : cutLeft l1 d rem' = cutLeft l1 d rem := by
  unfold cutLeft
  refine List.filter_congr fun q _ => ?_
  have hm : q.1 ∈ rem.map Prod.fst ↔ q.1 = p.1 ∨ q.1 ∈ rem'.map Prod.fst := by
    rw [(hp.map Prod.fst).mem_iff]
    simp
  by_cases h1 : q.1.1 = d
  · have : q.1 ≠ p.1 := fun e => hd (by rw [← e]; exact h1)
    simp [h1, hm, this]
  · simp [h1]
theorem cutLeft_drop {l1 rem rem' : List (Key × (En × Int))} {d : Int} {p : Key × (En × Int)} (hp : rem.Perm (p :: rem')) (hd : p.1.1 = d) : cutLeft l1 d (alDel rem' p.1) = alDel (cutLeft l1 d rem) p.1 := by
  unfold cutLeft alDel
  rw [List.filter_filter]
  refine List.filter_congr fun q _ => ?_
  have hm : q.1 ∈ rem.map Prod.fst ↔ q.1 = p.1 ∨ q.1 ∈ rem'.map Prod.fst := by
    rw [(hp.map Prod.fst).mem_iff]
    simp
  have hm2 : q.1 ∈ (rem'.filter fun x => !decide (x.1 = p.1)).map Prod.fst ↔ q.1 ≠ p.1 ∧ q.1 ∈ rem'.map Prod.fst := by
    simp only [List.mem_map, List.mem_filter, Bool.not_eq_true', decide_eq_false_iff_not]
    constructor
    · rintro ⟨x, ⟨h1, h2⟩, h3⟩
      rw [← h3]
      exact ⟨h2, x, h1, rfl⟩
    · rintro ⟨h1, x, h2, h3⟩
      exact ⟨x, ⟨h2, by rw [h3]; exact h1⟩, h3⟩
  by_cases h1 : q.1 = p.1
  · simp [h1, hd]
  · rw [show decide (q.1 ∈ (rem'.filter fun x => !decide (x.1 = p.1)).map Prod.fst) = decide (q.1 ∈ rem.map Prod.fst) from by rw [decide_eq_decide, hm, hm2]; simp [h1]]
    simp only [h1, decide_false, Bool.not_false, Bool.true_and]

structure CutIn (w0 : World) (c e h : Nat) (l' : List (Key × (En × Int))) (wh : List (Int × Bool)) (clk : Int) (kb : Nat) (d : Int) (nm : List UInt8) (r : Nat) (rem : List (Key × (En × Int))) (W : World) : Prop where
  ca : CacheAt W c e h l' wh clk
  it : MapI vKey vKept W r e l' rem
  ky : At W kb 32 [.int .i64 d, .string ⟨nm.toArray⟩]
  kp : Kp (fun k => k ≠ e ∧ k ≠ h) w0 W
  sz : w0.heap.size ≤ r
  kr : kb ≠ r
  ke : kb ≠ e
  cr : c ≠ r
  hr : h ≠ r

theorem CutIn.kp' {w0 W W' : World} {c e h : Nat} {l' rem : List (Key × (En × Int))} {wh : List (Int × Bool)} {clk : Int} {kb : Nat} {d : Int} {nm : List UInt8} {r : Nat} (H : CutIn w0 c e h l' wh clk kb d nm r rem W) (k : Kp (fun _ => True) W W') : CutIn w0 c e h l' wh clk kb d nm r rem W' :=
  ⟨H.ca.kp k trivial trivial trivial, H.it.kp k trivial trivial, H.ky.kp k trivial, H.kp.trans (k.mono fun _ _ _ => trivial), H.sz, H.kr, H.ke, H.cr, H.hr⟩
theorem CutIn.alloc {w0 W : World} {c e h : Nat} {l' rem : List (Key × (En × Int))} {wh : List (Int × Bool)} {clk : Int} {kb : Nat} {d : Int} {nm : List UInt8} {r : Nat} (H : CutIn w0 c e h l' wh clk kb d nm r rem W) (o : Obj) : CutIn w0 c e h l' wh clk kb d nm r rem (W.alloc o) :=
  H.kp' ((Kp.refl _ _).alloc o)
theorem CutIn.drew {w0 W : World} {c e h : Nat} {l' rem : List (Key × (En × Int))} {wh : List (Int × Bool)} {clk : Int} {kb : Nat} {d : Int} {nm : List UInt8} {r : Nat} (H : CutIn w0 c e h l' wh clk kb d nm r rem W) : CutIn w0 c e h l' wh clk kb d nm r rem W.drew :=
  H.kp' (Kp.refl _ _).drew
theorem CutIn.del {w0 W W' : World} {c e h : Nat} {l' rem : List (Key × (En × Int))} {wh : List (Int × Bool)} {clk : Int} {kb : Nat} {d : Int} {nm : List UInt8} {r : Nat} (H : CutIn w0 c e h l' wh clk kb d nm r rem W) {l2 rem2 : List (Key × (En × Int))}
    (hi : MapI vKey vKept W' r e l2 rem2) (ht : W.mapTurned W' e) : CutIn w0 c e h l2 wh clk kb d nm r rem2 W' :=
  ⟨H.ca.turnedE ht hi.map, hi, mapTurned_at H.ky ht H.ke, mapTurned_kp H.kp ht (fun _ q => q.1 rfl), H.sz, H.kr, H.ke, H.cr, H.hr⟩

set_option maxRecDepth 100000 in
set_option maxHeartbeats 4000000 in
theorem dentCut_any (w : World) (A : Option Addr) (n cp : Nat) (ks : List Key) (c e h : Nat) (l : List (Key × (En × Int))) (wh : List (Int × Bool)) (clk : Int) (hn : n ≤ 17592186044416) (hr : Rd w 2 A n (cKeys ks)) (hne : ∀ ad, A = some ad → ad.block ≠ e ∧ ad.block ≠ h) (H : CacheAt w c e h l wh clk) :
    Calls Tryz.prog 52 #[.pointer (some ⟨c, 0, none⟩), .slice A n cp] w fun r w' =>
      r = .returned (.tuple #[]) ∧ CacheAt w' c e h (cutAll ks (l, wh)).1 (cutAll ks (l, wh)).2 clk ∧ Kp (fun k => k ≠ e ∧ k ≠ h) w w' := by
  have hlen := hr.key_len
  have HR := Lib.hid hr
  have HN := Lib.hid hne
  have HL := Lib.hid hlen
  have hlt := H.c_lt
  have hlte := H.me.lt
  have hlth := H.mw.lt
  have HH := Lib.hid H
  clear hr hne H hlen
  go_enter Tryz.func52, Tryz.ntmps52
  go_wp2_with fail
  go_loopw [5, 9] (fun _ i wr => ∃ j : Nat, j ≤ n ∧ i = .int .i64 j ∧ Hid (CacheAt wr c e h (cutAll (ks.take j) (l, wh)).1 (cutAll (ks.take j) (l, wh)).2 clk) ∧ Hid (Kp (fun k => k ≠ e ∧ k ≠ h) w wr)) (fun _ i _ => n - (RowKit.intOf i).toNat)
  case atStart => exact ⟨0, by omega, rfl, HH, Kp.refl _ _⟩
  case round =>
    obtain ⟨j, hj, rfl, HC, HK⟩ := hrel
    obtain ⟨wo, hwo⟩ : ∃ wo : World, wo = wr := ⟨_, rfl⟩
    subst hwo
    by_cases hlt : j < n
    · obtain ⟨ad, d, nm, rfl, hbl, hx, h1, h2⟩ := (HR.out.kp HK.out (fun ad e => HN.out ad e)).key_at hlt
      have hst := cutAll_step ks (l, wh) hx
      have HST := Lib.hid hst
      clear hx hst
      have KB : Hid (At (wo.alloc (.cells #[.int .i64 d, .string ⟨nm.toArray⟩] 32)) wo.heap.size 32 [.int .i64 d, .string ⟨nm.toArray⟩]) := At.new wo 32 [.int .i64 d, .string ⟨nm.toArray⟩]
      have c1 : ∀ o, (wo.alloc o).cell? ⟨c, 1, none⟩ = some (.map (some h)) := fun o => by rw [blk_cell (HC.out.alloc o).blk]; rfl
      have hsz : w.heap.size ≤ wo.heap.size := HK.out.size
      go_upto_region 3 with fail
      go_region_law (refine step_delete_T rfl (.tmp 16) (.tmp 18) 130 rfl keyK_num Tryz.underlying130 rfl (HC.out.alloc _).drew.mw d rfl ?_; intro w2 hm2 ht2; have H2 := Lib.hid ((HC.out.alloc _).drew.turnedW ht2 hm2); have K2 := Lib.hid (mapTurned_kp (HK.out.alloc _).drew ht2 (fun _ q => q.2 rfl)); have KB2 := Lib.hid (mapTurned_at KB.out.drew ht2 (by omega)); have KS := Lib.hid ht2.grown.size; clear hm2 ht2)
      all_goals
        clear c1
        have c0 : w2.cell? ⟨c, 0, none⟩ = some (.map (some e)) := by rw [blk_cell H2.out.blk]; rfl
        have k0 : w2.cell? ⟨wo.heap.size, 0, none⟩ = some (.int .i64 d) := by rw [KB2.out.cell]; rfl
        have k1 : w2.cell? ⟨wo.heap.size, 1, none⟩ = some (.string ⟨nm.toArray⟩) := by rw [KB2.out.cell]; rfl
        have hsz2 : wo.heap.size < w2.heap.size := KB2.out.lt
        cases hq : nm.isEmpty with
        | false =>
          have hnm : nm ≠ [] := fun q => by rw [q] at hq; cases hq
          have HNM := Lib.hid hnm
          clear hnm
          go_upto_region 5 with fail
          go_region_law (refine step_delete_T rfl (.tmp 25) (.tmp 26) 129 rfl keyK_key Tryz.underlying129 rfl H2.out.drew.me (d, nm) rfl ?_; intro w3 hm3 ht3; have H3 := Lib.hid (H2.out.drew.turnedE ht3 hm3); have K3 := Lib.hid (mapTurned_kp K2.out.drew ht3 (fun _ q => q.1 rfl)); clear hm3 ht3)
          all_goals
            clear c0 k0 k1
            go_wp2_with fail
            go_roundw
            case rel =>
              refine ⟨j + 1, by omega, by go_num, ?_, K3.out⟩
              rw [HST.out]
              unfold cutOne
              rw [if_neg HNM.out]
              exact H3.out
            case measure => simp [RowKit.intOf] <;> omega
        | true =>
          have hnm : nm = [] := List.isEmpty_iff.1 hq
          have HNM := Lib.hid hnm
          clear hnm
          obtain ⟨l1, hl1⟩ : ∃ l1, (cutAll (ks.take j) (l, wh)).1 = l1 := ⟨_, rfl⟩
          obtain ⟨wh1, hwh1⟩ : ∃ wh1, alDel (cutAll (ks.take j) (l, wh)).2 d = wh1 := ⟨_, rfl⟩
          rw [hl1, hwh1] at H2
          have HL1 := Lib.hid hl1
          have HW1 := Lib.hid hwh1
          clear hl1 hwh1
          go_wp2_with ((with_reducible refine wpList_isRange ?_); refine wpList_range_T rfl (.tmp 30) 129 rfl Tryz.underlying129 rfl H2.out.me ?_; intro w3 hi3 hb3; have HI3 : Hid (CutIn w c e h l1 wh1 clk wo.heap.size d nm w2.heap.size l1 w3) := ⟨H2.out.below hb3, hi3, KB2.out.below hb3, K2.out.below hb3, by omega, by omega, by omega, by omega, by omega⟩; clear hi3 hb3)
          go_frame
          go_loopg [6] l1.length (fun g _ wx => ∃ (l' rem : List (Key × (En × Int))), g = rem.length ∧ Hid (CutIn w c e h l' wh1 clk wo.heap.size d nm w2.heap.size rem wx) ∧ Hid (l' = cutLeft l1 d rem))
          case atStart => exact ⟨l1, l1, rfl, HI3, (cutLeft_all l1 d).symm⟩
          case round =>
            obtain ⟨l', rem, rfl, HI, HF⟩ := hrel
            rcases MapI.next (P := Tryz.prog) HI.out.it 0 with ⟨hrem, hrun⟩ | ⟨⟨⟨pd, pn⟩, pv⟩, rem', w4, hperm, hrun, hit, hgr, hent⟩
            · have HI5 : Hid (CacheAt wr c e h (cutOne (cutAll (ks.take j) (l, wh)) (d, nm)).1 (cutOne (cutAll (ks.take j) (l, wh)) (d, nm)).2 clk) := by
                unfold cutOne
                rw [if_pos HNM.out, HL1.out, HW1.out, ← cutLeft_none, ← hrem, ← HF.out]
                exact HI.out.ca
              clear hrem
              go_wp2_with fail
              clear hrun
              go_roundw
              case rel => exact ⟨j + 1, by omega, by go_num, by rw [HST.out]; exact HI5.out, HI.out.kp⟩
              case measure => simp [RowKit.intOf] <;> omega
            · have hk4 : Kp (fun k => k ≠ w2.heap.size) wr w4 := (Kp.refl _ wr).grown hgr (fun i e _ q => q (by injection e with e; exact e.symm))
              have HI4 : Hid (CutIn w c e h l' wh1 clk wo.heap.size d nm w2.heap.size rem' w4) :=
                ⟨HI.out.ca.kp hk4 HI.out.cr (by have := HI.out.it.ne; exact this.symm) HI.out.hr, hit, HI.out.ky.kp hk4 HI.out.kr, HI.out.kp.grown hgr (fun i e hlt => by injection e with e; have := HI.out.sz; omega), HI.out.sz, HI.out.kr, HI.out.ke, HI.out.cr, HI.out.hr⟩
              have HPERM := Lib.hid hperm
              have x0 : w4.cell? ⟨wo.heap.size, 0, none⟩ = some (.int .i64 d) := by rw [HI4.out.ky.cell]; rfl
              have hx0 : ∀ o, (w4.alloc o).cell? ⟨wo.heap.size, 0, none⟩ = some (.int .i64 d) := fun o => cell_alloc_old x0 o
              simp only [vKey, txt] at hrun hent
              clear hperm hit hgr hk4 x0
              cases hq : (pd == d) with
              | false =>
                have hpd : pd ≠ d := by simpa using hq
                have HPD := Lib.hid hpd
                clear hpd
                go_wp2_with fail
                clear hrun hent hx0
                go_roundg rem'.length
                case measure => have := HPERM.out.length_eq; simp at this; omega
                case rel => exact ⟨l', rem', rfl, HI4.out.alloc _, HF.out.trans (cutLeft_keep HPERM.out HPD.out).symm⟩
              | true =>
                have hpd : pd = d := by simpa using hq
                have HPD := Lib.hid hpd
                clear hpd
                have c0' : ∀ o, (w4.alloc o).cell? ⟨c, 0, none⟩ = some (.map (some e)) := fun o => by rw [blk_cell (HI4.out.ca.alloc o).blk]; rfl
                go_upto_region 10 with fail
                clear hrun hent hx0
                go_region_law (refine step_delete_I rfl (.tmp 44) (.tmp 45) 129 rfl keyK_key Tryz.underlying129 rfl (HI4.out.alloc _).drew.it (pd, pn) rfl ?_; intro w5 hi5 ht5; have HI5 := Lib.hid ((HI4.out.alloc _).drew.del hi5 ht5); clear hi5 ht5)
                all_goals
                  clear c0'
                  go_wp2_with fail
                  go_roundg (alDel rem' (pd, pn)).length
                  case measure =>
                    have h1 := HPERM.out.length_eq
                    have h2 : (alDel rem' (pd, pn)).length ≤ rem'.length := List.length_filter_le _ _
                    simp at h1
                    omega
                  case rel => exact ⟨_, _, rfl, HI5.out, by rw [HF.out]; exact (cutLeft_drop HPERM.out HPD.out).symm⟩
    · obtain rfl : j = n := by omega
      have hfin : cutAll (ks.take j) (l, wh) = cutAll ks (l, wh) := by rw [List.take_of_length_le (by have := HL.out; omega)]
      rw [hfin] at HC
      clear hfin
      go_wp2_with fail
      go_end0
      exact ⟨rfl, HC.out, HK.out⟩
end Go.Proofs.YtoacobcbloljkaaGreatDoor
