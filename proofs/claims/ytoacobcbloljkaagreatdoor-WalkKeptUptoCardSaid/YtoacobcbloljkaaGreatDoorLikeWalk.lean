/-
  The walk of vistalaw12.Like without further keys.
-/
import Derived.Test.YtoacobcbloljkaaGreatDoorLike
import Derived.Deep.RegionHeld3
import Derived.Deep.DrawnRows
namespace Go.Proofs.YtoacobcbloljkaaGreatDoor
open Go.RowKit

attribute [local go_sem ↓] Go.wp_at_zero Go.wp_at_succ

/-- What the loop's last region keeps. -/
structure LQ (w0 : World) (B cb : Nat) (F : Nat → Prop) (A1 : Option Addr) (c1 : Nat) (A2 : Option Addr) (c2 : Nat) (L : List En) (W : List Int) (c e h : Nat) (l : List (Key × (En × Int))) (wh : List (Int × Bool)) (clk : Int) (a b f : Nat) (kd : Int) (kn : List UInt8) (x : En) (V : World) : Prop where
  lk : LK w0 B cb F A1 c1 A2 c2 L W c e h l wh clk V
  kb : At V a 32 [.int .i64 kd, .string ⟨kn.toArray⟩]
  eb : At V b 36 (cEn x)
  fb : At V f 36 (cEn x)

section
variable {w0 V V' : World} {B cb : Nat} {F : Nat → Prop} {A1 : Option Addr} {c1 : Nat} {A2 : Option Addr} {c2 : Nat} {L : List En} {W : List Int} {c e h : Nat} {l : List (Key × (En × Int))} {wh : List (Int × Bool)} {clk : Int} {a b f : Nat} {kd : Int} {kn : List UInt8} {x : En}
theorem LQ.next (H : LQ w0 B cb F A1 c1 A2 c2 L W c e h l wh clk a b f kd kn x V) (hb : Below V.heap.size V V') : LQ w0 B cb F A1 c1 A2 c2 L W c e h l wh clk a b f kd kn x V' :=
  ⟨H.lk.next hb, H.kb.below hb, H.eb.below hb, H.fb.below hb⟩
end

set_option maxRecDepth 100000 in
set_option maxHeartbeats 8000000 in
theorem like_any (w : World) (B cb : Nat) (F : Nat → Prop) (A1 : Option Addr) (c1 : Nat) (A2 : Option Addr) (c2 : Nat) (L : List En) (W : List Int) (c e h : Nat) (l : List (Key × (En × Int))) (wh : List (Int × Bool)) (clk : Int)
    (hc : CacheAt w c e h l wh clk) (hr : RefAt w B cb F A1 c1 A2 c2 L W) (R : Rel l wh clk L W) (hn : L.length ≤ 1256584717421) (hw : W.length ≤ 17592186044416) :
    Calls Tryz.prog 21 #[.pointer (some ⟨c, 0, none⟩), .pointer (some ⟨cb, 0, none⟩), .slice none 0 0] w fun r w' => r = .returned (.bool true) ∧ Below w.heap.size w w' := by
  have H : Hid (LK w B cb F A1 c1 A2 c2 L W c e h l wh clk w) := ⟨hc, hr, Below.refl _ _⟩
  have RR := Lib.hid R
  have hnl := negsE_le L
  have cb0 : Hid (∀ V, LK w B cb F A1 c1 A2 c2 L W c e h l wh clk V → V.cell? ⟨cb, 0, none⟩ = some (.slice A1 L.length c1) ∧ Hid (LK w B cb F A1 c1 A2 c2 L W c e h l wh clk V)) := fun V HV => ⟨HV.ra.c0, HV⟩
  clear hc hr R
  go_enter Tryz.func21, Tryz.ntmps21
  go_wp2_with fail
  go_cut [37] (fun v wd => v = .bool false ∧ Hid (LK w B cb F A1 c1 A2 c2 L W c e h l wh clk wd))
  case first =>
    go_region_held3 (fun V => V.cell? ⟨cb, 0, none⟩ = some (.slice A1 L.length c1) ∧ Hid (LK w B cb F A1 c1 A2 c2 L W c e h l wh clk V))
      (first
        | exact cb0.out _ H.out.drew
        | exact cb0.out _ (Hid.out (by assumption)))
      (first
        | (go_at_call 70; (with_reducible refine (LK.entries (Hid.out (And.right (by assumption))) RR.out hn).mono ?_); rintro r w6 ⟨A6, k6, rfl, hr6, hl6, _⟩; have HR6 := Lib.hid hr6; have HL6 := Lib.hid hl6; clear hr6 hl6)
        | (go_at_call 17; (with_reducible refine (LK.same (Hid.out (And.right (by assumption))) (Hid.out (by assumption)) (LK.list (Hid.out (And.right (by assumption)))) (by unfold maxLen; omega)).mono ?_); rintro r w7 ⟨rfl, hl7, _⟩; have HL7 := Lib.hid hl7; clear hl7)
        | (go_at_call 71; (with_reducible refine (LK.len (Hid.out (And.right (by assumption))) RR.out).mono ?_); rintro r w7 ⟨rfl, hl7, _⟩; have HL7 := Lib.hid hl7; clear hl7)
        | (go_at_call 72; (with_reducible refine (LK.neg1 (Hid.out (And.right (by assumption))) RR.out hn).mono ?_); rintro r w7 ⟨rfl, hl7, _⟩; have HL7 := Lib.hid hl7; clear hl7)
        | (go_at_call 73; (with_reducible refine (LK.neg2 (Hid.out (And.right (by assumption))) hn).mono ?_); rintro r w7 ⟨rfl, hl7, _⟩; have HL7 := Lib.hid hl7; clear hl7))
    all_goals
      have hfin := Hid.out (And.right (by assumption : w7.cell? ⟨cb, 0, none⟩ = some (.slice A1 L.length c1) ∧ Hid (LK w B cb F A1 c1 A2 c2 L W c e h l wh clk w7)))
      go_wp2_with fail
      go_meet
      case rel => exact ⟨rfl, hfin⟩
  case rest =>
    obtain ⟨rfl, HC⟩ := hcut
    go_wp2_with fail
    go_loopg [7] L.length (fun g v wx => ∃ j : Nat, g = L.length - j ∧ j ≤ L.length ∧ v = .int .i64 j ∧ Hid (LK w B cb F A1 c1 A2 c2 L W c e h l wh clk wx))
    case atStart => exact ⟨0, by omega, by omega, rfl, HC⟩
    case round =>
      obtain ⟨j, rfl, hj, rfl, HI⟩ := hrel
      have c0 := HI.out.ra.c0
      by_cases hlt : j < L.length
      · have hx : L[j]? = some L[j] := List.getElem?_eq_getElem hlt
        obtain ⟨ad, hA, hbl, hin, x0, x1, x2, x3, x4, x5, x6⟩ := entry_at HI.out.list hx
        subst hA
        clear hx x2 x3 x4 x5 x6
        obtain ⟨⟨kd, kn⟩, hk⟩ : ∃ k, L[j].1 = k := ⟨_, rfl⟩
        rw [hk] at x0 x1
        clear hk
        simp only at x0 x1
        obtain ⟨okb, hok⟩ : ∃ b, (getE L (kd, kn)).isSome = b := ⟨_, rfl⟩
        obtain ⟨⟨⟨ed, en⟩, ng, ei, ek, em, et⟩, hE⟩ : ∃ x, (getE L (kd, kn)).getD noEn = x := ⟨_, rfl⟩
        obtain ⟨lf, hlf⟩ : ∃ b, leafE L (kd, kn) = b := ⟨_, rfl⟩
        obtain ⟨wb, hwb⟩ : ∃ b, W.contains kd = b := ⟨_, rfl⟩
        have hg1 := fun V (HV : LK w B cb F (some ad) c1 A2 c2 L W c e h l wh clk V) => HV.get1 RR.out (kd, kn)
        have hg2 := fun V (HV : LK w B cb F (some ad) c1 A2 c2 L W c e h l wh clk V) => HV.get2 hn (kd, kn)
        have hl1 := fun V (HV : LK w B cb F (some ad) c1 A2 c2 L W c e h l wh clk V) => HV.leaf1 RR.out (kd, kn)
        have hl2 := fun V (HV : LK w B cb F (some ad) c1 A2 c2 L W c e h l wh clk V) => HV.leaf2 hn (kd, kn)
        have hw1 := fun V (HV : LK w B cb F (some ad) c1 A2 c2 L W c e h l wh clk V) => HV.whole1 RR.out kd
        have hw2 := fun V (HV : LK w B cb F (some ad) c1 A2 c2 L W c e h l wh clk V) => HV.whole2 hw kd
        rw [hok, hE] at hg1 hg2
        rw [hlf] at hl1 hl2
        rw [hwb] at hw1 hw2
        simp only [vKey, vEn, txt] at hg1 hg2 hl1 hl2
        have G1 := Lib.hid hg1
        have G2 := Lib.hid hg2
        have L1 := Lib.hid hl1
        have L2 := Lib.hid hl2
        have W1 := Lib.hid hw1
        have W2 := Lib.hid hw2
        clear hg1 hg2 hl1 hl2 hw1 hw2 hok hE hlf hwb
        have c0' : ∀ o, (wr.alloc o).cell? ⟨cb, 0, none⟩ = some (.slice (some ad) L.length c1) := fun o => cell_alloc_old c0 o
        have x0' : ∀ o, (wr.alloc o).cell? (ad.add (j * 7)) = some (.int .i64 kd) := fun o => cell_alloc_old x0 o
        have x1' : ∀ o, (wr.alloc o).cell? ⟨(ad.add (j * 7)).block, (ad.add (j * 7)).off + 1, none⟩ = some (.string ⟨kn.toArray⟩) := fun o => cell_alloc_old x1 o
        go_upto_region 10 with fail
        have KB : Hid (At (wr.alloc (.cells #[.int .i64 kd, .string ⟨kn.toArray⟩] 32)) wr.heap.size 32 [.int .i64 kd, .string ⟨kn.toArray⟩]) := At.new wr _ [.int .i64 kd, .string ⟨kn.toArray⟩]
        have HI1 := Lib.hid (HI.out.alloc (.cells #[.int .i64 kd, .string ⟨kn.toArray⟩] 32))
        clear c0 x0 x1 c0' x0' x1'
        go_wp2_with fail
        refine (G1.out _ HI1.out).mono ?_
        rintro r w2 ⟨rfl, hl2, hb2⟩
        have HI2 := Lib.hid (hl2.alloc (.cells #[.int .i64 ed, .string ⟨en.toArray⟩, .bool ng, .int .i64 ei, .int .i64 ek, .int .i64 em, .string ⟨et.toArray⟩] 36))
        have KB2 := Lib.hid ((KB.out.below hb2).alloc (.cells #[.int .i64 ed, .string ⟨en.toArray⟩, .bool ng, .int .i64 ei, .int .i64 ek, .int .i64 em, .string ⟨et.toArray⟩] 36))
        have EB2 : Hid (At (w2.alloc (.cells #[.int .i64 ed, .string ⟨en.toArray⟩, .bool ng, .int .i64 ei, .int .i64 ek, .int .i64 em, .string ⟨et.toArray⟩] 36)) w2.heap.size 36 (cEn ((ed, en), ng, ei, ek, em, et))) := At.new w2 _ [.int .i64 ed, .string ⟨en.toArray⟩, .bool ng, .int .i64 ei, .int .i64 ek, .int .i64 em, .string ⟨et.toArray⟩]
        have k0 : ∀ o, (w2.alloc o).cell? ⟨wr.heap.size, 0, none⟩ = some (.int .i64 kd) := fun o => by rw [((KB.out.below hb2).alloc o).cell]; rfl
        have k1 : ∀ o, (w2.alloc o).cell? ⟨wr.heap.size, 1, none⟩ = some (.string ⟨kn.toArray⟩) := fun o => by rw [((KB.out.below hb2).alloc o).cell]; rfl
        clear hl2 hb2
        go_wp2_with fail
        refine (G2.out _ HI2.out).mono ?_
        rintro r w3 ⟨rfl, hl3, hb3⟩
        have HI3 := Lib.hid (hl3.alloc (.cells #[.int .i64 ed, .string ⟨en.toArray⟩, .bool ng, .int .i64 ei, .int .i64 ek, .int .i64 em, .string ⟨et.toArray⟩] 36))
        have KB3 := Lib.hid ((KB2.out.below hb3).alloc (.cells #[.int .i64 ed, .string ⟨en.toArray⟩, .bool ng, .int .i64 ei, .int .i64 ek, .int .i64 em, .string ⟨et.toArray⟩] 36))
        have EB3 := Lib.hid ((EB2.out.below hb3).alloc (.cells #[.int .i64 ed, .string ⟨en.toArray⟩, .bool ng, .int .i64 ei, .int .i64 ek, .int .i64 em, .string ⟨et.toArray⟩] 36))
        have FB3 : Hid (At (w3.alloc (.cells #[.int .i64 ed, .string ⟨en.toArray⟩, .bool ng, .int .i64 ei, .int .i64 ek, .int .i64 em, .string ⟨et.toArray⟩] 36)) w3.heap.size 36 (cEn ((ed, en), ng, ei, ek, em, et))) := At.new w3 _ [.int .i64 ed, .string ⟨en.toArray⟩, .bool ng, .int .i64 ei, .int .i64 ek, .int .i64 em, .string ⟨et.toArray⟩]
        clear hl3 hb3 k0 k1
        go_upto_region 12 with fail
        obtain ⟨V, hV⟩ : ∃ V, w3.alloc (.cells #[.int .i64 ed, .string ⟨en.toArray⟩, .bool ng, .int .i64 ei, .int .i64 ek, .int .i64 em, .string ⟨et.toArray⟩] 36) = V := ⟨_, rfl⟩
        rw [hV] at HI3 KB3 EB3 FB3 ⊢
        have hq : ∀ V : World, (binOp .neq 36 (.agg #[.int .i64 ed, .string ⟨en.toArray⟩, .bool ng, .int .i64 ei, .int .i64 ek, .int .i64 em, .string ⟨et.toArray⟩]) (.agg #[.int .i64 ed, .string ⟨en.toArray⟩, .bool ng, .int .i64 ei, .int .i64 ek, .int .i64 em, .string ⟨et.toArray⟩])).run Tryz.prog V = .ok (.bool false) V := fun V => by
          have := neq_entry ((ed, en), ng, ei, ek, em, et) ((ed, en), ng, ei, ek, em, et) V
          rwa [decide_eq_true rfl] at this
        clear hV
        have KQ : Hid (LQ w B cb F (some ad) c1 A2 c2 L W c e h l wh clk wr.heap.size w2.heap.size w3.heap.size kd kn ((ed, en), ng, ei, ek, em, et) V) := ⟨HI3.out, KB3.out, EB3.out, FB3.out⟩
        have HN : Hid ((namesOf L kd).length ≤ maxLen) := by
          have h1 : (namesOf L kd).length = (L.filter (inDir kd)).length := (List.mergeSort_perm _ _).length_eq
          have h2 := List.length_filter_le (inDir kd) L
          refine Lib.hid ?_
          unfold maxLen
          omega
        have KL : Hid (∀ V, LQ w B cb F (some ad) c1 A2 c2 L W c e h l wh clk wr.heap.size w2.heap.size w3.heap.size kd kn ((ed, en), ng, ei, ek, em, et) V → (V.cell? ⟨wr.heap.size, 0, none⟩ = some (.int .i64 kd) ∧ V.cell? ⟨wr.heap.size, 1, none⟩ = some (.string ⟨kn.toArray⟩)) ∧ (V.cell? ⟨w2.heap.size, 0, none⟩ = some (.int .i64 ed) ∧ V.cell? ⟨w2.heap.size, 1, none⟩ = some (.string ⟨en.toArray⟩) ∧ V.cell? ⟨w2.heap.size, 2, none⟩ = some (.bool ng) ∧ V.cell? ⟨w2.heap.size, 3, none⟩ = some (.int .i64 ei) ∧ V.cell? ⟨w2.heap.size, 4, none⟩ = some (.int .i64 ek) ∧ V.cell? ⟨w2.heap.size, 5, none⟩ = some (.int .i64 em) ∧ V.cell? ⟨w2.heap.size, 6, none⟩ = some (.string ⟨et.toArray⟩)) ∧ (V.cell? ⟨w3.heap.size, 0, none⟩ = some (.int .i64 ed) ∧ V.cell? ⟨w3.heap.size, 1, none⟩ = some (.string ⟨en.toArray⟩) ∧ V.cell? ⟨w3.heap.size, 2, none⟩ = some (.bool ng) ∧ V.cell? ⟨w3.heap.size, 3, none⟩ = some (.int .i64 ei) ∧ V.cell? ⟨w3.heap.size, 4, none⟩ = some (.int .i64 ek) ∧ V.cell? ⟨w3.heap.size, 5, none⟩ = some (.int .i64 em) ∧ V.cell? ⟨w3.heap.size, 6, none⟩ = some (.string ⟨et.toArray⟩)) ∧ Hid (LQ w B cb F (some ad) c1 A2 c2 L W c e h l wh clk wr.heap.size w2.heap.size w3.heap.size kd kn ((ed, en), ng, ei, ek, em, et) V)) := fun V HV => ⟨⟨by rw [HV.kb.cell]; rfl, by rw [HV.kb.cell]; rfl⟩, En7 HV.eb, En7 HV.fb, HV⟩
        clear HI1 HI2 HI3 KB KB2 KB3 EB2 EB3 FB3
        go_cut [120] (fun v wd => v = .bool false ∧ Hid (LK w B cb F (some ad) c1 A2 c2 L W c e h l wh clk wd))
        case first =>
          go_region_held3 (fun V => (V.cell? ⟨wr.heap.size, 0, none⟩ = some (.int .i64 kd) ∧ V.cell? ⟨wr.heap.size, 1, none⟩ = some (.string ⟨kn.toArray⟩)) ∧ (V.cell? ⟨w2.heap.size, 0, none⟩ = some (.int .i64 ed) ∧ V.cell? ⟨w2.heap.size, 1, none⟩ = some (.string ⟨en.toArray⟩) ∧ V.cell? ⟨w2.heap.size, 2, none⟩ = some (.bool ng) ∧ V.cell? ⟨w2.heap.size, 3, none⟩ = some (.int .i64 ei) ∧ V.cell? ⟨w2.heap.size, 4, none⟩ = some (.int .i64 ek) ∧ V.cell? ⟨w2.heap.size, 5, none⟩ = some (.int .i64 em) ∧ V.cell? ⟨w2.heap.size, 6, none⟩ = some (.string ⟨et.toArray⟩)) ∧ (V.cell? ⟨w3.heap.size, 0, none⟩ = some (.int .i64 ed) ∧ V.cell? ⟨w3.heap.size, 1, none⟩ = some (.string ⟨en.toArray⟩) ∧ V.cell? ⟨w3.heap.size, 2, none⟩ = some (.bool ng) ∧ V.cell? ⟨w3.heap.size, 3, none⟩ = some (.int .i64 ei) ∧ V.cell? ⟨w3.heap.size, 4, none⟩ = some (.int .i64 ek) ∧ V.cell? ⟨w3.heap.size, 5, none⟩ = some (.int .i64 em) ∧ V.cell? ⟨w3.heap.size, 6, none⟩ = some (.string ⟨et.toArray⟩)) ∧ Hid (LQ w B cb F (some ad) c1 A2 c2 L W c e h l wh clk wr.heap.size w2.heap.size w3.heap.size kd kn ((ed, en), ng, ei, ek, em, et) V))
            (first
              | exact KL.out _ (LQ.next KQ.out (below_drew (Below.refl _ _)))
              | exact KL.out _ (LQ.next (Hid.out (And.right (And.right (And.right (by assumption))))) (Hid.out (by assumption))))
            (first
            | (go_at_call 76; (with_reducible refine (L1.out _ (LQ.lk (Hid.out (And.right (And.right (And.right (by assumption))))))).mono ?_); rintro r w7 ⟨rfl, _, hb7⟩; have HB7 := Lib.hid hb7; clear hb7)
            | (go_at_call 77; (with_reducible refine (L2.out _ (LQ.lk (Hid.out (And.right (And.right (And.right (by assumption))))))).mono ?_); rintro r w7 ⟨rfl, _, hb7⟩; have HB7 := Lib.hid hb7; clear hb7)
            | (go_at_call 78; (with_reducible refine (W1.out _ (LQ.lk (Hid.out (And.right (And.right (And.right (by assumption))))))).mono ?_); rintro r w7 ⟨rfl, _, hb7⟩; have HB7 := Lib.hid hb7; clear hb7)
            | (go_at_call 79; (with_reducible refine (W2.out _ (LQ.lk (Hid.out (And.right (And.right (And.right (by assumption))))))).mono ?_); rintro r w7 ⟨rfl, _, hb7⟩; have HB7 := Lib.hid hb7; clear hb7)
            | (go_at_call 34; (with_reducible refine (LK.names1 (LQ.lk (Hid.out (And.right (And.right (And.right (by assumption)))))) RR.out hn kd).mono ?_); rintro r w7 ⟨A6, k6, rfl, hr6, _, hb7⟩; have N1 := Lib.hid hr6; clear hr6; have HB7 := Lib.hid hb7; clear hb7; (try have M2 := Lib.hid (Rd.below N2.out HB7.out)))
            | (go_at_call 80; (with_reducible refine (LK.names2 (LQ.lk (Hid.out (And.right (And.right (And.right (by assumption)))))) RR.out hn kd).mono ?_); rintro r w7 ⟨A7, k7, rfl, hr7, _, hb7⟩; have N2 := Lib.hid hr7; clear hr7; have HB7 := Lib.hid hb7; clear hb7; (try have M1 := Lib.hid (Rd.below N1.out HB7.out)))
            | (go_at_call 17; (with_reducible refine (LK.same (LQ.lk (Hid.out (And.right (And.right (And.right (by assumption)))))) (Hid.out (by assumption)) (Hid.out (by assumption)) HN.out).mono ?_); rintro r w7 ⟨rfl, _, hb7⟩; have HB7 := Lib.hid hb7; clear hb7))
          all_goals
            have hfin : LK w B cb F (some ad) c1 A2 c2 L W c e h l wh clk w7 := LQ.lk (a := wr.heap.size) (b := w2.heap.size) (f := w3.heap.size) (kd := kd) (kn := kn) (x := ((ed, en), ng, ei, ek, em, et)) (Hid.out (And.right (And.right (And.right (by assumption)))))
            go_wp2_with fail
            go_meet
            case rel => exact ⟨rfl, hfin⟩
        case rest =>
          obtain ⟨rfl, HC2⟩ := hcut
          go_wp2_with fail
          go_roundg (L.length - (j + 1))
          case measure => omega
          case rel => exact ⟨j + 1, rfl, by omega, by go_num, HC2⟩
      · go_wp2_with fail
        go_ret
        exact ⟨rfl, HI.out.bl⟩
end Go.Proofs.YtoacobcbloljkaaGreatDoor
