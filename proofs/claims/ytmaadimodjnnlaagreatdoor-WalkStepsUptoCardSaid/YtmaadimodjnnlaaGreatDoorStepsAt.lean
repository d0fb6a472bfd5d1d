/-
  The walk of walk.Steps: first part: what stands in the frame and in memory at its labels.
-/
import Derived.Test.YtmaadimodjnnlaaGreatDoorWalkMet
import Derived.Test.YtmaadimodjnnlaaGreatDoorWalkSpec
import Derived.Test.YtmaadimodjnnlaaGreatDoorScope
import Derived.Test.YtmaadimodjnnlaaGreatDoorBlk
import Derived.WalkMore
namespace Go.Proofs.YtmaadimodjnnlaaGreatDoor
open Go.RowKit

def cKey (k : Key) : List Value := [.int .i64 k.1, txt k.2]
def cKeys (l : List Key) : List Value := l.flatMap cKey

def outCells (o : Wk.Out) (v : Value) : List Value := [.bool o.1, .int .i64 o.2.1.1, txt o.2.1.2, .int .i64 o.2.2.1, .int .i64 o.2.2.2.1.1, .int .i64 o.2.2.2.1.2.1, .int .i64 o.2.2.2.1.2.2.1, txt o.2.2.2.1.2.2.2, v]
def vOut (o : Wk.Out) (v : Value) : Value := .agg (outCells o v).toArray
def out0 (used : List Key) : Wk.Out := (false, (0, []), 0, (0, 0, 0, []), used)

/-- What a walk hands back. -/
def OutPost (w : World) (o : Wk.Out) (r : Ending) (w' : World) : Prop :=
  ∃ v, r = .returned (vOut o v) ∧ w'.ownsRow w.heap.size 29 2 v o.2.2.2.2.length (cKeys o.2.2.2.2) ∧ Below w.heap.size w w'

/-- The frame of walk.Steps at its labels. -/
def StF (c n cp m cq r b : Nat) (A B : Option Addr) (follow dir : Bool) (L : Int) (todo way ok : Value) (a : Act) : Prop :=
  ∃ us : Nat → Value, a = { tmps := #[.pointer (some ⟨c, 0, none⟩), .slice A n cp, .slice B m cq, .bool dir, .bool follow, .int .i64 L, undef, undef, undef, undef, undef, undef, .pointer (some ⟨r, 0, none⟩), todo, .slice (some ⟨b, 0, none⟩) 3 3, way, .pointer (some ⟨b + 1 + 1, 0, none⟩), .pointer (some ⟨b + 1 + 1 + 1, 0, none⟩), .pointer (some ⟨b + 1 + 1 + 1 + 1, 0, none⟩), ok, us 0, us 1, us 2, us 3, us 4, us 5, us 6, us 7, us 8, us 9, us 10, us 11, us 12, us 13, us 14, us 15, us 16, us 17, us 18, us 19, us 20, us 21, us 22, us 23, us 24, us 25, us 26, us 27, us 28, us 29, us 30, us 31, us 32, us 33, us 34, us 35, us 36, us 37, us 38, us 39, us 40, us 41, us 42, us 43, us 44, us 45, us 46, us 47, us 48, us 49, us 50, us 51, us 52, us 53, us 54, us 55, us 56, us 57, us 58, us 59, us 60, us 61, us 62, us 63, us 64, us 65, us 66, us 67, us 68, us 69, us 70, us 71, us 72, us 73, us 74, us 75, us 76, us 77, us 78, us 79, us 80, us 81, us 82, us 83, us 84, us 85, us 86, us 87, us 88, us 89, us 90, us 91, us 92, us 93, us 94, us 95, us 96, us 97, us 98, us 99, us 100, us 101, us 102, us 103, us 104, us 105, us 106, us 107, us 108, us 109, us 110, us 111, us 112, us 113, us 114, us 115, us 116, us 117, us 118, us 119, us 120, us 121, us 122], defers := [] }

set_option maxRecDepth 100000 in
theorem StF.of {c n cp m cq r b : Nat} {A B : Option Addr} {follow dir : Bool} {L : Int} {todo way ok : Value} {u20 u21 u22 u23 u24 u25 u26 u27 u28 u29 u30 u31 u32 u33 u34 u35 u36 u37 u38 u39 u40 u41 u42 u43 u44 u45 u46 u47 u48 u49 u50 u51 u52 u53 u54 u55 u56 u57 u58 u59 u60 u61 u62 u63 u64 u65 u66 u67 u68 u69 u70 u71 u72 u73 u74 u75 u76 u77 u78 u79 u80 u81 u82 u83 u84 u85 u86 u87 u88 u89 u90 u91 u92 u93 u94 u95 u96 u97 u98 u99 u100 u101 u102 u103 u104 u105 u106 u107 u108 u109 u110 u111 u112 u113 u114 u115 u116 u117 u118 u119 u120 u121 u122 u123 u124 u125 u126 u127 u128 u129 u130 u131 u132 u133 u134 u135 u136 u137 u138 u139 u140 u141 u142 : Value} :
    StF c n cp m cq r b A B follow dir L todo way ok { tmps := #[.pointer (some ⟨c, 0, none⟩), .slice A n cp, .slice B m cq, .bool dir, .bool follow, .int .i64 L, undef, undef, undef, undef, undef, undef, .pointer (some ⟨r, 0, none⟩), todo, .slice (some ⟨b, 0, none⟩) 3 3, way, .pointer (some ⟨b + 1 + 1, 0, none⟩), .pointer (some ⟨b + 1 + 1 + 1, 0, none⟩), .pointer (some ⟨b + 1 + 1 + 1 + 1, 0, none⟩), ok, u20, u21, u22, u23, u24, u25, u26, u27, u28, u29, u30, u31, u32, u33, u34, u35, u36, u37, u38, u39, u40, u41, u42, u43, u44, u45, u46, u47, u48, u49, u50, u51, u52, u53, u54, u55, u56, u57, u58, u59, u60, u61, u62, u63, u64, u65, u66, u67, u68, u69, u70, u71, u72, u73, u74, u75, u76, u77, u78, u79, u80, u81, u82, u83, u84, u85, u86, u87, u88, u89, u90, u91, u92, u93, u94, u95, u96, u97, u98, u99, u100, u101, u102, u103, u104, u105, u106, u107, u108, u109, u110, u111, u112, u113, u114, u115, u116, u117, u118, u119, u120, u121, u122, u123, u124, u125, u126, u127, u128, u129, u130, u131, u132, u133, u134, u135, u136, u137, u138, u139, u140, u141, u142], defers := [] } := ⟨fun i => [u20, u21, u22, u23, u24, u25, u26, u27, u28, u29, u30, u31, u32, u33, u34, u35, u36, u37, u38, u39, u40, u41, u42, u43, u44, u45, u46, u47, u48, u49, u50, u51, u52, u53, u54, u55, u56, u57, u58, u59, u60, u61, u62, u63, u64, u65, u66, u67, u68, u69, u70, u71, u72, u73, u74, u75, u76, u77, u78, u79, u80, u81, u82, u83, u84, u85, u86, u87, u88, u89, u90, u91, u92, u93, u94, u95, u96, u97, u98, u99, u100, u101, u102, u103, u104, u105, u106, u107, u108, u109, u110, u111, u112, u113, u114, u115, u116, u117, u118, u119, u120, u121, u122, u123, u124, u125, u126, u127, u128, u129, u130, u131, u132, u133, u134, u135, u136, u137, u138, u139, u140, u141, u142].getD i undef, rfl⟩


def srcs (A : Option Addr) (n cp c : Nat) : List Value := [.iface 97 (.slice A n cp), .iface 24 (.pointer (some ⟨c, 0, none⟩)), .iface 99 (.agg #[.pointer (some ⟨c, 0, none⟩)])]

def sliceLen : Value → Nat
  | .slice _ n _ => n
  | _ => 0

theorem info_out : (Tryz.prog.info? 35).map (·.size) = some 9 := by kernel_rfl
theorem info_entry : (Tryz.prog.info? 52).map (·.size) = some 7 := by kernel_rfl
theorem info_node : (Tryz.prog.info? 32).map (·.size) = some 4 := by kernel_rfl

/-- None of the blocks of Steps's own variables. -/
def Free (r b k : Nat) : Prop := k ≠ r ∧ k ≠ b ∧ k ≠ b + 1 + 1 ∧ k ≠ b + 1 + 1 + 1 ∧ k ≠ b + 1 + 1 + 1 + 1

/-- The memory of walk.Steps at its labels. -/
structure StW (w0 : World) (b : Nat) (A : Option Addr) (n cp c : Nat) (Ta : Option Addr) (ct g cw : Nat) (Au : Option Addr) (nu cu : Nat) (tl : List (List UInt8)) (wl : List Nd) (used : List Key) (w : World) : Prop where
  blw : Below w0.heap.size w0 w
  hb : w0.heap.size < b
  hr : At w w0.heap.size 35 (outCells (out0 []) (.slice none 0 0))
  hs : At w b 138 (srcs A n cp c)
  ho : At w (b + 1 + 1) 35 (outCells (out0 []) (.slice Au nu cu))
  hh : ∃ k : Key, At w (b + 1 + 1 + 1) 29 (cKey k)
  hx : ∃ x : En, At w (b + 1 + 1 + 1 + 1) 52 (cEn x)
  us : w.ownsRow w0.heap.size 29 2 (.slice Au nu cu) used.length (cKeys used)
  uf : ∀ k, (Value.slice Au nu cu).ownBlock = some k → Free w0.heap.size b k ∧ k ≠ g ∧ ∀ ad, Ta = some ad → ad.block ≠ k
  td : Rd w 1 Ta tl.length (txts tl)
  tc : tl.length ≤ ct ∧ ct ≤ maxLen
  tq : ∀ ad, Ta = some ad → ad.block < w.heap.size
  tf : ∀ ad, Ta = some ad → Free w0.heap.size b ad.block ∧ ad.block ≠ g
  wy : w.ownsRow w0.heap.size 32 4 (.slice (some ⟨g, 0, none⟩) wl.length cw) wl.length (cNds wl)
  wf : Free w0.heap.size b g

section
variable {w0 : World} {b : Nat} {A : Option Addr} {n cp c : Nat} {Ta : Option Addr} {ct g cw : Nat} {Au : Option Addr} {nu cu : Nat} {tl : List (List UInt8)} {wl : List Nd} {used : List Key} {w w' : World}

theorem Rd.mk0 (w : World) (sz : Nat) (A : Option Addr) : Rd w sz A ([] : List (List UInt8)).length (txts []) := ⟨by simp [txts], fun h => absurd h (by simp)⟩

theorem StW.keep (H : StW w0 b A n cp c Ta ct g cw Au nu cu tl wl used w) (k : Kp (fun k => k ≠ b + 1 + 1 + 1 ∧ k ≠ b + 1 + 1 + 1 + 1) w w')
    (hh : ∃ k : Key, At w' (b + 1 + 1 + 1) 29 (cKey k)) (hx : ∃ x : En, At w' (b + 1 + 1 + 1 + 1) 52 (cEn x)) : StW w0 b A n cp c Ta ct g cw Au nu cu tl wl used w' := by
  have hb := H.hb
  refine ⟨H.blw.trans (k.to_below (H.blw.size) (fun j hj => ⟨by omega, by omega⟩)), hb, ?_, ?_, ?_, hh, hx, ?_, H.uf, ?_, H.tc, fun ad e => Nat.lt_of_lt_of_le (H.tq ad e) k.size, H.tf, ?_, H.wf⟩
  · exact H.hr.kp k ⟨by omega, by omega⟩
  · exact H.hs.kp k ⟨by omega, by omega⟩
  · exact H.ho.kp k ⟨by omega, by omega⟩
  · exact own_kp H.us k fun j hj => by have := (H.uf j hj).1; exact ⟨this.2.2.2.1, this.2.2.2.2⟩
  · exact H.td.kp k fun ad e => by have := (H.tf ad e).1; exact ⟨this.2.2.2.1, this.2.2.2.2⟩
  · exact own_kp H.wy k fun j hj => by injection hj with hj; subst hj; exact ⟨H.wf.2.2.2.1, H.wf.2.2.2.2⟩

theorem StW.below (H : StW w0 b A n cp c Ta ct g cw Au nu cu tl wl used w) (k : Below w.heap.size w w') : StW w0 b A n cp c Ta ct g cw Au nu cu tl wl used w' := by
  obtain ⟨q, hq⟩ := H.hh
  obtain ⟨x, hx⟩ := H.hx
  exact H.keep (Kp.of_below k) ⟨q, hq.below k⟩ ⟨x, hx.below k⟩

theorem StW.drew (H : StW w0 b A n cp c Ta ct g cw Au nu cu tl wl used w) : StW w0 b A n cp c Ta ct g cw Au nu cu tl wl used w.drew :=
  H.keep (Kp.refl _ w).drew H.hh H.hx

theorem StW.putKey (H : StW w0 b A n cp c Ta ct g cw Au nu cu tl wl used w) (d : Int) (sb : ByteArray) :
    StW w0 b A n cp c Ta ct g cw Au nu cu tl wl used ((w.setCell ⟨b + 1 + 1 + 1, 0, none⟩ (.int .i64 d)).setCell ⟨b + 1 + 1 + 1, 1, none⟩ (.string sb)) ∧
      At ((w.setCell ⟨b + 1 + 1 + 1, 0, none⟩ (.int .i64 d)).setCell ⟨b + 1 + 1 + 1, 1, none⟩ (.string sb)) (b + 1 + 1 + 1) 29 [.int .i64 d, .string sb] := by
  obtain ⟨k, hk⟩ := H.hh
  obtain ⟨x, hx⟩ := H.hx
  have h2 := (hk.setCell 0 (.int .i64 d)).setCell 1 (.string sb)
  refine ⟨H.keep (((Kp.refl _ w).setCell (p := ⟨b + 1 + 1 + 1, 0, none⟩) (fun _ q => q.1 rfl) _).setCell (p := ⟨b + 1 + 1 + 1, 1, none⟩) (fun _ q => q.1 rfl) _) ⟨(d, sb.toList), ?_⟩ ⟨x, (hx.setOther 0 _ (by omega)).setOther 1 _ (by omega)⟩, h2⟩
  unfold cKey
  rw [txt_toList]
  exact h2

/-- todo = todo[1:]. -/
theorem StW.tail {s : List UInt8} {ad : Addr} (H : StW w0 b A n cp c (some ad) ct g cw Au nu cu (s :: tl) wl used w) :
    (ct = 1 → StW w0 b A n cp c (some ad) 0 g cw Au nu cu tl wl used w) ∧ (ct ≠ 1 → StW w0 b A n cp c (some (ad.add 1)) (ct - 1) g cw Au nu cu tl wl used w) := by
  have hc := H.tc
  rw [List.length_cons] at hc
  have ht := H.td
  constructor
  · intro h1
    have hl : tl = [] := List.eq_nil_of_length_eq_zero (by omega)
    subst hl
    exact ⟨H.blw, H.hb, H.hr, H.hs, H.ho, H.hh, H.hx, H.us, H.uf, Rd.mk0 _ _ _, ⟨Nat.le_refl _, Nat.zero_le _⟩, H.tq, H.tf, H.wy, H.wf⟩
  · intro h1
    refine ⟨H.blw, H.hb, H.hr, H.hs, H.ho, H.hh, H.hx, H.us, fun k hk => ?_, ?_, ⟨by omega, by omega⟩, fun a ha => (by injection ha with ha; subst ha; rw [add_block]; exact H.tq ad rfl), fun a ha => ?_, H.wy, H.wf⟩
    · obtain ⟨q1, q2, q3⟩ := H.uf k hk
      exact ⟨q1, q2, fun a ha => by injection ha with ha; subst ha; rw [add_block]; exact q3 ad rfl⟩
    · refine ⟨by simp [txts_length], fun hn => ?_⟩
      obtain ⟨ad', e, hb, hcl⟩ := ht.2 (by simp)
      injection e with e
      subst e
      refine ⟨_, rfl, by rw [add_block]; exact hb, fun j u hu => ?_⟩
      rw [add_assoc_, Nat.add_comm]
      exact hcl (j + 1) u (by simpa [txts] using hu)
    · injection ha with ha
      subst ha
      rw [add_block]
      exact H.tf ad rfl

/-- at = at.up(). -/
theorem StW.up (H : StW w0 b A n cp c Ta ct g cw Au nu cu tl wl used w) {k : Nat} (hk : wl.length = k + 1) :
    StW w0 b A n cp c Ta ct g cw Au nu cu tl (Wk.up wl) used w ∧ (Wk.up wl).length = if k = 0 then 1 else k := by
  have hl : (Wk.up wl).length = if k = 0 then 1 else k := by
    unfold Wk.up
    by_cases h0 : k = 0
    · rw [if_pos (by omega), if_pos h0]; omega
    · rw [if_neg (by omega), if_neg h0, List.length_dropLast]; omega
  refine ⟨⟨H.blw, H.hb, H.hr, H.hs, H.ho, H.hh, H.hx, H.us, H.uf, H.td, H.tc, H.tq, H.tf, ?_, H.wf⟩, hl⟩
  have hw := H.wy
  unfold Wk.up
  by_cases h0 : k = 0
  · rw [if_pos (by omega)]
    exact hw
  · rw [if_neg (by omega), List.length_dropLast, hk, Nat.add_sub_cancel]
    rw [hk] at hw
    have hc := own_cut hw (m := k) (by omega) (by omega)
    have e : cNds wl.dropLast = (cNds wl).take (k * 4) := by
      have hne : wl ≠ [] := by intro q; subst q; simp at hk
      obtain ⟨x, hs⟩ : ∃ x, wl = wl.dropLast ++ [x] := ⟨wl.getLast hne, (List.dropLast_concat_getLast hne).symm⟩
      have hld : (cNds wl.dropLast).length = k * 4 := by rw [cNds_length, List.length_dropLast, hk, Nat.add_sub_cancel]
      have hap : cNds wl = cNds wl.dropLast ++ cNds [x] := by
        conv => lhs; rw [hs]
        simp [cNds]
      rw [hap, List.take_left' hld]
    rw [e]
    exact hc

/-- x = known(..): the entry is put. -/
theorem StW.putX (H : StW w0 b A n cp c Ta ct g cw Au nu cu tl wl used w) (y : En) (hk : Kp (fun k => k ≠ b + 1 + 1 + 1 + 1) w w') (hx : At w' (b + 1 + 1 + 1 + 1) 52 (cEn y)) :
    StW w0 b A n cp c Ta ct g cw Au nu cu tl wl used w' := by
  obtain ⟨q, hq⟩ := H.hh
  exact H.keep (hk.mono fun j _ h => h.2) ⟨q, hq.kp hk (by omega)⟩ ⟨y, hx⟩

/-- What is read of out and of the result's cells. -/
theorem StW.o (H : StW w0 b A n cp c Ta ct g cw Au nu cu tl wl used w) :
    w.cell? ⟨b + 1 + 1, 0, none⟩ = some (.bool false) ∧ w.cell? ⟨b + 1 + 1, 1, none⟩ = some (.int .i64 0) ∧ w.cell? ⟨b + 1 + 1, 2, none⟩ = some (.string ⟨#[]⟩) ∧ w.cell? ⟨b + 1 + 1, 3, none⟩ = some (.int .i64 0) ∧
    w.cell? ⟨b + 1 + 1, 4, none⟩ = some (.int .i64 0) ∧ w.cell? ⟨b + 1 + 1, 5, none⟩ = some (.int .i64 0) ∧ w.cell? ⟨b + 1 + 1, 6, none⟩ = some (.int .i64 0) ∧ w.cell? ⟨b + 1 + 1, 7, none⟩ = some (.string ⟨#[]⟩) ∧ w.cell? ⟨b + 1 + 1, 8, none⟩ = some (.slice Au nu cu) ∧
    (∀ j, w.frozen? ⟨b + 1 + 1, j, none⟩ = false) := by
  have h := H.ho
  refine ⟨?_, ?_, ?_, ?_, ?_, ?_, ?_, ?_, ?_, fun j => h.frozen j⟩
  all_goals
    rw [h.cell]
    rfl

theorem StW.r (H : StW w0 b A n cp c Ta ct g cw Au nu cu tl wl used w) :
    w.cell? ⟨w0.heap.size, 0, none⟩ = some (.bool false) ∧ w.cell? ⟨w0.heap.size, 1, none⟩ = some (.int .i64 0) ∧ w.cell? ⟨w0.heap.size, 2, none⟩ = some (.string ⟨#[]⟩) ∧ w.cell? ⟨w0.heap.size, 3, none⟩ = some (.int .i64 0) ∧
    w.cell? ⟨w0.heap.size, 4, none⟩ = some (.int .i64 0) ∧ w.cell? ⟨w0.heap.size, 5, none⟩ = some (.int .i64 0) ∧ w.cell? ⟨w0.heap.size, 6, none⟩ = some (.int .i64 0) ∧ w.cell? ⟨w0.heap.size, 7, none⟩ = some (.string ⟨#[]⟩) ∧ w.cell? ⟨w0.heap.size, 8, none⟩ = some (.slice none 0 0) ∧
    (∀ j, w.frozen? ⟨w0.heap.size, j, none⟩ = false) := by
  have h := H.hr
  refine ⟨?_, ?_, ?_, ?_, ?_, ?_, ?_, ?_, ?_, fun j => h.frozen j⟩
  all_goals
    rw [h.cell]
    rfl

theorem StW.h (H : StW w0 b A n cp c Ta ct g cw Au nu cu tl wl used w) :
    ∃ k : Key, w.cell? ⟨b + 1 + 1 + 1, 0, none⟩ = some (.int .i64 k.1) ∧ w.cell? ⟨b + 1 + 1 + 1, 1, none⟩ = some (.string ⟨k.2.toArray⟩) ∧ (∀ j, w.frozen? ⟨b + 1 + 1 + 1, j, none⟩ = false) := by
  obtain ⟨k, h⟩ := H.hh
  refine ⟨k, ?_, ?_, fun j => h.frozen j⟩
  all_goals
    rw [h.cell]
    rfl

theorem StW.x (H : StW w0 b A n cp c Ta ct g cw Au nu cu tl wl used w) :
    ∃ (d : Int) (nm : List UInt8) (ng : Bool) (i kd md : Int) (tg : List UInt8),
      w.cell? ⟨b + 1 + 1 + 1 + 1, 0, none⟩ = some (.int .i64 d) ∧ w.cell? ⟨b + 1 + 1 + 1 + 1, 1, none⟩ = some (.string ⟨nm.toArray⟩) ∧ w.cell? ⟨b + 1 + 1 + 1 + 1, 2, none⟩ = some (.bool ng) ∧ w.cell? ⟨b + 1 + 1 + 1 + 1, 3, none⟩ = some (.int .i64 i) ∧
      w.cell? ⟨b + 1 + 1 + 1 + 1, 4, none⟩ = some (.int .i64 kd) ∧ w.cell? ⟨b + 1 + 1 + 1 + 1, 5, none⟩ = some (.int .i64 md) ∧ w.cell? ⟨b + 1 + 1 + 1 + 1, 6, none⟩ = some (.string ⟨tg.toArray⟩) ∧ (∀ j, w.frozen? ⟨b + 1 + 1 + 1 + 1, j, none⟩ = false) := by
  obtain ⟨⟨⟨d, nm⟩, ng, i, kd, md, tg⟩, h⟩ := H.hx
  refine ⟨d, nm, ng, i, kd, md, tg, ?_, ?_, ?_, ?_, ?_, ?_, ?_, fun j => h.frozen j⟩
  all_goals
    rw [h.cell]
    rfl

/-- At the end. -/
theorem StW.done (H : StW w0 b A n cp c Ta ct g cw Au nu cu tl wl used w) (k : Kp (Free w0.heap.size b) w w') : w'.ownsRow w0.heap.size 29 2 (.slice Au nu cu) used.length (cKeys used) ∧ Below w0.heap.size w0 w' := by
  have hb := H.hb
  exact ⟨own_kp H.us k fun j hj => (H.uf j hj).1, H.blw.trans (k.to_below H.blw.size (fun j hj => by unfold Free; omega))⟩
end

theorem info_keys : (Tryz.prog.info? 29).map (fun i => (i.zero, i.size, i.bytes)) = some (some (.agg #[.int .i64 0, .string ByteArray.empty]), 2, 24) := by kernel_rfl
theorem info_nodes : (Tryz.prog.info? 32).map (fun i => (i.zero, i.size, i.bytes)) = some (some (.agg #[.int .i64 0, .int .i64 0, .int .i64 0, .string ByteArray.empty]), 4, 40) := by kernel_rfl
theorem elemKeys : Elem Tryz.prog 33 29 2 24 := Elem.mk_ Tryz.underlying33 info_keys rfl (by decide)
theorem elemPlace : Elem Tryz.prog 101 32 4 40 := Elem.mk_ Tryz.underlying101 info_nodes rfl (by decide)

theorem cKeys_length (l : List Key) : (cKeys l).length = l.length * 2 := by
  induction l with
  | nil => rfl
  | cons y r ih =>
    unfold cKeys at *
    rw [List.flatMap_cons, List.length_append, ih]
    have : (cKey y).length = 2 := rfl
    rw [this, List.length_cons]
    omega

theorem cKeys_one (l : List Key) : ∀ u ∈ cKeys l, u.oneCell' = true := by
  intro u hu
  simp only [cKeys, List.mem_flatMap, cKey, List.mem_cons, List.not_mem_nil, or_false] at hu
  obtain ⟨k, _, rfl | rfl⟩ := hu <;> rfl

theorem cNds_one (l : List Nd) : ∀ u ∈ cNds l, u.oneCell' = true := by
  intro u hu
  simp only [cNds, List.mem_flatMap, cNd, List.mem_cons, List.not_mem_nil, or_false] at hu
  obtain ⟨k, _, rfl | rfl | rfl | rfl⟩ := hu <;> rfl

/-- A new row of whatever cells. -/
theorem rd_new (w : World) (t : TypeId) (sz n : Nat) (cs : List Value) (h : cs.length = n * sz) : Rd (w.alloc (.cells cs.toArray t)) sz (some ⟨w.heap.size, 0, none⟩) n cs := by
  refine ⟨h, fun _ => ⟨_, rfl, by simp, fun j u hu => ?_⟩⟩
  rw [Addr.add_mid, Nat.zero_add, (At.new w t cs).cell]
  exact hu

theorem own_lt_ {w : World} {base e sz n m : Nat} {A : Option Addr} {c : Nat} {xs : List Value} (h : w.ownsRow base e sz (.slice A m c) n xs) : ∀ ad, A = some ad → base ≤ ad.block ∧ ad.block < w.heap.size := by
  intro ad e
  subst e
  exact h.lt ad.block rfl

theorem own_form {w : World} {base e sz n m : Nat} {A : Option Addr} {c : Nat} {xs : List Value} (h : w.ownsRow base e sz (.slice A m c) n xs) (hn : 0 < n) : ∃ g, A = some ⟨g, 0, none⟩ ∧ m = n ∧ g < w.heap.size ∧ base ≤ g ∧ (Value.slice A m c).ownBlock = some g := by
  obtain ⟨g, cap, hv, hb, hlt⟩ := h.form hn
  injection hv with h1 h2 h3
  subst h1
  exact ⟨g, rfl, h2, hlt, hb, rfl⟩

section
variable {w0 : World} {b : Nat} {A : Option Addr} {n cp c : Nat} {Ta : Option Addr} {ct g cw : Nat} {Au : Option Addr} {nu cu : Nat} {tl : List (List UInt8)} {wl : List Nd} {used : List Key} {w w3 : World}

theorem StW.lts (H : StW w0 b A n cp c Ta ct g cw Au nu cu tl wl used w) (hk : wl ≠ []) : w0.heap.size < w.heap.size ∧ b < w.heap.size ∧ b + 1 + 1 < w.heap.size ∧ b + 1 + 1 + 1 < w.heap.size ∧ b + 1 + 1 + 1 + 1 < w.heap.size ∧ g < w.heap.size := by
  obtain ⟨q, hq⟩ := H.hh
  obtain ⟨x, hx⟩ := H.hx
  have hl : 0 < wl.length := List.length_pos_iff.2 hk
  obtain ⟨g', e, _, h1, _⟩ := own_form H.wy hl
  injection e with e
  injection e with e
  subst e
  exact ⟨H.hr.lt, H.hs.lt, H.ho.lt, hq.lt, hx.lt, h1⟩

/-- out.Used = append(out.Used, here). -/
theorem StW.useKey (H : StW w0 b A n cp c Ta ct g cw Au nu cu tl wl used w) (hk : wl ≠ []) {key : Key} {y : En} (hx : At w (b + 1 + 1 + 1 + 1) 52 (cEn y)) {o : Obj} {A' : Option Addr} {n' c' : Nat}
    (hown : w3.ownsRow w0.heap.size 29 2 (.slice A' n' c') (used.length + 1) (cKeys used ++ cKeys [key])) (hg : (w.alloc o).grownBy w3 (Value.slice Au nu cu).ownBlock)
    (hl : (Value.slice A' n' c').ownBlock = (Value.slice Au nu cu).ownBlock ∨ (Value.slice A' n' c').ownBlock = some (w.alloc o).heap.size) :
    At w3 (b + 1 + 1) 35 (outCells (out0 []) (.slice Au nu cu)) ∧
    StW w0 b A n cp c Ta ct g cw A' n' c' tl wl (used ++ [key]) (w3.setCell ⟨b + 1 + 1, 8, none⟩ (.slice A' n' c')) ∧ At (w3.setCell ⟨b + 1 + 1, 8, none⟩ (.slice A' n' c')) (b + 1 + 1 + 1 + 1) 52 (cEn y) := by
  obtain ⟨l1, l2, l3, l4, l5, l6⟩ := H.lts hk
  have hb := H.hb
  have hk0 : Kp (fun k => (Value.slice Au nu cu).ownBlock ≠ some k) w w3 := ((Kp.refl _ w).alloc o).grown hg fun k e _ q => q e
  have F : ∀ j, ¬ Free w0.heap.size b j → (Value.slice Au nu cu).ownBlock ≠ some j := fun j hj e => hj (H.uf j e).1
  have f1 : ¬ Free w0.heap.size b (b + 1 + 1) := fun q => q.2.2.1 rfl
  have f2 : ¬ Free w0.heap.size b w0.heap.size := fun q => q.1 rfl
  have f3 : ¬ Free w0.heap.size b b := fun q => q.2.1 rfl
  have f4 : ¬ Free w0.heap.size b (b + 1 + 1 + 1) := fun q => q.2.2.2.1 rfl
  have f5 : ¬ Free w0.heap.size b (b + 1 + 1 + 1 + 1) := fun q => q.2.2.2.2 rfl
  have ho := H.ho.kp hk0 (F _ f1)
  obtain ⟨q, hq⟩ := H.hh
  have hk1 : Kp (fun k => (Value.slice Au nu cu).ownBlock ≠ some k ∧ k ≠ b + 1 + 1) w (w3.setCell ⟨b + 1 + 1, 8, none⟩ (.slice A' n' c')) :=
    (hk0.mono fun k _ q => q.1).setCell (fun _ q => q.2 rfl) _
  have hx' := hx.kp hk1 ⟨F _ f5, by omega⟩
  have hnew : ∀ k, (Value.slice A' n' c').ownBlock = some k → ((Value.slice Au nu cu).ownBlock = some k) ∨ k = w.heap.size + 1 := by
    intro k e
    rcases hl with h | h
    · exact .inl (h.symm.trans e)
    · rw [h] at e; injection e with e; right; rw [← e]; simp
  refine ⟨ho, ⟨H.blw.trans (hk1.to_below H.blw.size fun j hj => ⟨fun e => ?_, by omega⟩), hb, H.hr.kp hk1 ⟨F _ f2, by omega⟩, H.hs.kp hk1 ⟨F _ f3, by omega⟩, ho.setCell 8 _, ⟨q, hq.kp hk1 ⟨F _ f4, by omega⟩⟩, ⟨y, hx'⟩, ?_, ?_, ?_, H.tc, fun ad e => Nat.lt_of_lt_of_le (H.tq ad e) hk1.size, H.tf, ?_, H.wf⟩, hx'⟩
  · have := (H.us.lt j e).1
    omega
  · have e : cKeys (used ++ [key]) = cKeys used ++ cKeys [key] := by simp [cKeys]
    rw [List.length_append, e]
    refine own_kp hown ((Kp.refl (fun k => k ≠ b + 1 + 1) w3).setCell (fun _ q => q rfl) _) fun k hk' e => ?_
    rcases hnew k hk' with h | h
    · exact F _ f1 (e ▸ h)
    · omega
  · intro k hk'
    rcases hnew k hk' with h | h
    · exact H.uf k h
    · refine ⟨by unfold Free; omega, by omega, fun ad e q => ?_⟩
      have := H.tq ad e
      omega
  · exact H.td.kp hk1 fun ad e => ⟨fun q => (H.uf _ q).2.2 ad e rfl, (H.tf ad e).1.2.2.1⟩
  · exact own_kp H.wy hk1 fun k e => by
      injection e with e
      subst e
      exact ⟨fun q => (H.uf _ q).2.1 rfl, H.wf.2.2.1⟩

/-- out.Err is laid anew as it was. -/
theorem StW.errZero (H : StW w0 b A n cp c Ta ct g cw Au nu cu tl wl used w) : StW w0 b A n cp c Ta ct g cw Au nu cu tl wl used (w.setCell ⟨b + 1 + 1, 3, none⟩ (.int .i64 0)) := by
  have hb := H.hb
  obtain ⟨q, hq⟩ := H.hh
  obtain ⟨x, hx⟩ := H.hx
  have k : Kp (fun k => k ≠ b + 1 + 1) w (w.setCell ⟨b + 1 + 1, 3, none⟩ (.int .i64 0)) := (Kp.refl _ w).setCell (fun _ q => q rfl) _
  refine ⟨H.blw.trans (k.to_below H.blw.size fun j hj => by omega), hb, H.hr.kp k (by omega), H.hs.kp k (by omega), H.ho.setCell 3 _, ⟨q, hq.kp k (by omega)⟩, ⟨x, hx.kp k (by omega)⟩, ?_, H.uf, ?_, H.tc, fun ad e => Nat.lt_of_lt_of_le (H.tq ad e) k.size, H.tf, ?_, H.wf⟩
  · exact own_kp H.us k fun j hj => (H.uf j hj).1.2.2.1
  · exact H.td.kp k fun ad e => (H.tf ad e).1.2.2.1
  · exact own_kp H.wy k fun j hj => by injection hj with hj; subst hj; exact H.wf.2.2.1

/-- at = append(at, x.Node). -/
theorem StW.way (H : StW w0 b A n cp c Ta ct g cw Au nu cu tl wl used w) (hk : wl ≠ []) {nd : Nd} {o : Obj} {A' : Option Addr} {n' c' : Nat}
    (hown : w3.ownsRow w0.heap.size 32 4 (.slice A' n' c') (wl.length + 1) (cNds wl ++ cNds [nd])) (hg : (w.alloc o).grownBy w3 (some g))
    (hl : (Value.slice A' n' c').ownBlock = some g ∨ (Value.slice A' n' c').ownBlock = some (w.alloc o).heap.size) :
    ∃ g', A' = some ⟨g', 0, none⟩ ∧ n' = wl.length + 1 ∧ StW w0 b A n cp c Ta ct g' c' Au nu cu tl (wl ++ [nd]) used w3 := by
  obtain ⟨l1, l2, l3, l4, l5, l6⟩ := H.lts hk
  obtain ⟨g', rfl, rfl, hlt, hge, hob⟩ := own_form hown (by omega)
  have hb := H.hb
  have hk1 : Kp (fun k => k ≠ g) w w3 := ((Kp.refl _ w).alloc o).grown hg fun k e _ q => by injection e with e; exact q e.symm
  have hwf := H.wf
  unfold Free at hwf
  have hnew : g' = g ∨ g' = w.heap.size + 1 := by
    rw [hob] at hl
    rcases hl with h | h
    · injection h with h; exact .inl h
    · injection h with h; right; rw [h]; simp
  obtain ⟨q, hq⟩ := H.hh
  obtain ⟨x, hx⟩ := H.hx
  refine ⟨g', rfl, rfl, ⟨H.blw.trans (hk1.to_below H.blw.size fun j hj => ?_), hb, H.hr.kp hk1 (by omega), H.hs.kp hk1 (by omega), H.ho.kp hk1 (by omega), ⟨q, hq.kp hk1 (by omega)⟩, ⟨x, hx.kp hk1 (by omega)⟩, ?_, ?_, ?_, H.tc,
    fun ad e => Nat.lt_of_lt_of_le (H.tq ad e) hk1.size, ?_, ?_, ?_⟩⟩
  · obtain ⟨g2, e2, _, _, h2, _⟩ := own_form H.wy (List.length_pos_iff.2 hk)
    injection e2 with e2
    injection e2 with e2
    omega
  · exact own_kp H.us hk1 fun k e => (H.uf k e).2.1
  · intro k e
    obtain ⟨q1, q2, q3⟩ := H.uf k e
    refine ⟨q1, ?_, q3⟩
    have := (H.us.lt k e).2
    omega
  · exact H.td.kp hk1 fun ad e => (H.tf ad e).2
  · intro ad e
    have := H.tq ad e
    refine ⟨(H.tf ad e).1, ?_⟩
    have := (H.tf ad e).2
    omega
  · rw [List.length_append]
    have e : cNds (wl ++ [nd]) = cNds wl ++ cNds [nd] := by simp [cNds]
    rw [e]
    exact hown
  · unfold Free
    omega

theorem own_type {w : World} {b1 b2 e1 e2 s1 s2 n1 n2 : Nat} {v1 v2 : Value} {x1 x2 : List Value} {k : Nat} (h1 : w.ownsRow b1 e1 s1 v1 n1 x1) (h2 : w.ownsRow b2 e2 s2 v2 n2 x2) (k1 : v1.ownBlock = some k) (k2 : v2.ownBlock = some k) : e1 = e2 := by
  rcases h1.2 with ⟨rfl, _⟩ | ⟨g, cap, cur, rfl, _, a, _⟩
  · cases k1
  rcases h2.2 with ⟨rfl, _⟩ | ⟨g', cap', cur', rfl, _, a', _⟩
  · cases k2
  injection k1 with k1
  injection k2 with k2
  subst k1
  subst k2
  rw [a] at a'
  injection a' with a'
  injection a'

/-- A link is met: new components; the way stays. -/
theorem StW.todo (H : StW w0 b A n cp c Ta ct g cw Au nu cu tl wl used w) (hk : wl ≠ []) (hb : Below w.heap.size w w3) {A' : Option Addr} {c' : Nat} {ls : List (List UInt8)} (hv : w3.ownsRow w.heap.size 9 1 (.slice A' ls.length c') ls.length (txts ls)) :
    StW w0 b A n cp c A' c' g cw Au nu cu ls wl used w3 := by
  obtain ⟨l1, l2, l3, l4, l5, l6⟩ := H.lts hk
  have H3 := H.below hb
  have hA := own_lt_ hv
  refine ⟨H3.blw, H3.hb, H3.hr, H3.hs, H3.ho, H3.hh, H3.hx, H3.us, fun k e => ?_, Rd.of_own hv, own_cap hv, fun ad e => (hA ad e).2, fun ad e => ?_, H3.wy, H3.wf⟩
  · obtain ⟨q1, q2, _⟩ := H.uf k e
    refine ⟨q1, q2, fun ad e' q => ?_⟩
    have := (H.us.lt k e).2
    have := (hA ad e').1
    omega
  · have := (hA ad e).1
    unfold Free
    omega

/-- A link is met: the way begins anew. -/
theorem StW.root (H : StW w0 b A n cp c Ta ct g cw Au nu cu tl wl used w) (hk : wl ≠ []) (hb : Below w.heap.size w w3) {A' : Option Addr} {c' : Nat} {ls : List (List UInt8)} (hv : w3.ownsRow w.heap.size 9 1 (.slice A' ls.length c') ls.length (txts ls))
    {va : Value} (hr : w3.ownsRow w.heap.size 32 4 va 1 (cNds [rootNd])) :
    ∃ g' cw', va = .slice (some ⟨g', 0, none⟩) 1 cw' ∧ StW w0 b A n cp c A' c' g' cw' Au nu cu ls [rootNd] used w3 := by
  obtain ⟨l1, l2, l3, l4, l5, l6⟩ := H.lts hk
  have hsz := H.blw.size
  obtain ⟨Aw, cw', rfl⟩ := own_slice hr
  obtain ⟨g', rfl, _, hlt, hge, hob⟩ := own_form hr (by omega)
  have H3 := H.todo hk hb hv
  refine ⟨g', cw', rfl, H3.blw, H3.hb, H3.hr, H3.hs, H3.ho, H3.hh, H3.hx, H3.us, fun k e => ?_, H3.td, H3.tc, H3.tq, fun ad e => ⟨(H3.tf ad e).1, fun q => ?_⟩, own_base hr hsz, ?_⟩
  · obtain ⟨q1, _, q3⟩ := H3.uf k e
    refine ⟨q1, ?_, q3⟩
    have := (H.us.lt k e).2
    omega
  · subst e
    exact absurd (own_type (k := g') hv hr (by rw [← q]; rfl) hob) (by decide)
  · unfold Free
    omega
end

def StJ0 (c n cp m cq : Nat) (A B : Option Addr) (follow : Bool) (fresh : List En) (l : List (Key × (En × Int))) (wh : List (Int × Bool)) (RUN : Wk.Out) (w : World) (a' : Act) (w' : World) : Prop :=
  ∃ (b : Nat) (dir' : Bool) (Lc : Nat) (Ta : Option Addr) (ct g k cw : Nat) (Au : Option Addr) (nu cu : Nat) (ok : Value) (wl : List Nd) (used : List Key),
    StF c n cp m cq w.heap.size b A B follow dir' Lc (.slice Ta 0 ct) (.slice (some ⟨g, 0, none⟩) (k + 1) cw) ok a' ∧ Hid (StW w b A n cp c Ta ct g cw Au nu cu [] wl used w') ∧
      Hid (Wk.steps (knownOf fresh l wh) follow Lc [] wl dir' used = RUN) ∧ Hid (wl.length = k + 1) ∧ k ≤ 3000000

def StJ1 (c n cp m cq : Nat) (A B : Option Addr) (follow : Bool) (fresh : List En) (l : List (Key × (En × Int))) (wh : List (Int × Bool)) (RUN : Wk.Out) (w : World) (a' : Act) (w' : World) : Prop :=
  ∃ (b : Nat) (dir' : Bool) (Lc : Nat) (Ta : Option Addr) (ct g k cw : Nat) (Au : Option Addr) (nu cu : Nat) (ok : Value) (tl : List (List UInt8)) (wl : List Nd) (used : List Key),
    StF c n cp m cq w.heap.size b A B follow dir' Lc (.slice Ta tl.length ct) (.slice (some ⟨g, 0, none⟩) (k + 1) cw) ok a' ∧ Hid (StW w b A n cp c Ta ct g cw Au nu cu tl wl used w') ∧
      Hid (Wk.steps (knownOf fresh l wh) follow Lc tl wl dir' used = RUN) ∧ Hid (wl.length = k + 1) ∧ k + tl.length + 98 * Lc ≤ 3000000 ∧ used.length + tl.length + 98 * Lc ≤ 3000000 ∧ Lc ≤ 8

def stMu (a' : Act) (_ : World) : Nat := 98 * (intOf (a'.tmps.getD 5 undef)).toNat + sliceLen (a'.tmps.getD 13 undef)

/-- The memory as the loop begins. -/
theorem stw_start {w w1 : World} {A : Option Addr} {n cp c : Nat} {A1 : Option Addr} {m c1 : Nat} {ss : List (List UInt8)} {o : Obj} (ho : o = .cells (outCells (out0 []) (.slice none 0 0)).toArray 35)
    (hown : w1.ownsRow (w.alloc o).heap.size 9 1 (.slice A1 m c1) m (txts ss)) (hb : Below (w.alloc o).heap.size (w.alloc o) w1) (hm : ss.length = m) :
    StW w w1.heap.size A n cp c A1 c1 (w1.heap.size + 1) 1 none 0 0 ss [rootNd] []
      (((((w1.alloc (.cells (srcs A n cp c).toArray 138)).alloc (.cells (cNd rootNd).toArray 32)).alloc (.cells (outCells (out0 []) (.slice none 0 0)).toArray 35)).alloc (.cells (cKey (0, [])).toArray 29)).alloc (.cells (cEn noEn).toArray 52)) := by
  subst ho
  have hsz := hb.size
  simp only [World.size_alloc] at hsz
  have h0 : At w1 w.heap.size 35 (outCells (out0 []) (.slice none 0 0)) := (At.new w _ _).below hb
  have hbl : Below w.heap.size w w1 := ((Below.refl _ w).alloc (Nat.le_refl _) _).trans (hb.mono (by simp))
  have hl := own_lt_ hown
  simp only [World.size_alloc] at hl
  have hown' := own_base hown (base' := w.heap.size) (by simp)
  refine ⟨((((hbl.alloc (by omega) _).alloc (by simp; omega) _).alloc (by simp; omega) _).alloc (by simp; omega) _).alloc (by simp; omega) _, by omega, ((((h0.alloc _).alloc _).alloc _).alloc _).alloc _, ((((At.new w1 _ _).alloc _).alloc _).alloc _).alloc _, ?_, ⟨(0, []), ?_⟩, ⟨noEn, At.new_ _ _ _ (by simp)⟩, World.ownsRow_nil _ _ _ _, ?_, ?_, ?_, ?_, ?_, ?_, ?_⟩
  · exact ((At.new_ _ _ _ (by simp)).alloc _).alloc _
  · exact (At.new_ _ _ _ (by simp)).alloc _
  · intro k hk
    cases hk
  · rw [hm]
    exact (((((Rd.of_own hown).alloc _).alloc _).alloc _).alloc _).alloc _
  · have := own_cap hown
    rw [hm]
    exact this
  · intro ad e
    have := (hl ad e).2
    simp
    omega
  · intro ad e
    have := hl ad e
    unfold Free
    omega
  · have hr := own_root (w1.alloc (.cells (srcs A n cp c).toArray 138)) w.heap.size (by simp; omega)
    have e : (w1.alloc (.cells (srcs A n cp c).toArray 138)).heap.size = w1.heap.size + 1 := by simp
    rw [e] at hr
    exact own_below (own_below (own_below hr ((Below.refl _ _).alloc (Nat.le_refl _) _)) ((Below.refl _ _).alloc (Nat.le_refl _) _)) ((Below.refl _ _).alloc (Nat.le_refl _) _)
  · unfold Free
    omega

/-- 'return out': the variable is copied into the result's cells. -/
theorem out_back {P : Program} {id d : Nat} {ty tp1 tp2 : TypeId} {pos1 pos2 : String} {af1 af2 : Array Edge} {a : Act} {w : World} {Q : Exit → Act → World → Prop} {x y : Tmp} (cs olds : List Value) (b r : Nat) {dsc : TypeDesc}
    (hu : P.underlying ty = some dsc) (hds : (match dsc with | .struct _ | .array _ _ => true | _ => false) = true) (hi : (P.info? ty).map (·.size) = some cs.length) (hl : olds.length = cs.length) (h1 : cs.all (·.oneCell') = true)
    (hx : a.eval (.tmp x) = .pointer (some ⟨b, 0, none⟩)) (hy : (a.put (some d) (.agg cs.toArray)).eval (.tmp y) = .pointer (some ⟨r, 0, none⟩)) (hd : (a.put (some d) (.agg cs.toArray)).eval (.tmp d) = .agg cs.toArray)
    (ho : At w b ty cs) (hr : At w r ty olds)
    (h : ∀ w', At w' r ty cs → Kp (fun k => k ≠ r) w w' → Q .normal (a.put (some d) (.agg cs.toArray)) w') :
    (Code.region id [{ dst := some d, op := .load ty (.tmp x), type := tp1, pos := pos1, after := af1, guard := none }, { dst := none, op := .store ty (.tmp y) (.tmp d), type := tp2, pos := pos2, after := af2, guard := none }].toArray false).wp P Q a w := by
  refine wp_region_lit ?_
  refine wpList_load_row rfl ty (.tmp x) rfl b hx ty cs.toArray (0, 0) dsc ho hu hds (by simpa using hi) ?_
  have hc : (Value.agg cs.toArray).cells = cs.toArray := rfl
  refine wpList_store_blk rfl ty (.tmp y) (.tmp d) rfl r 0 (.agg cs.toArray) hy hd hr (by rw [hc]; simpa using hi) (by rw [hc]; simp; omega) (by rw [hc]; simpa using h1) ?_
  intro w' hw hk _
  have e : List.take 0 olds ++ (Value.agg cs.toArray).cells.toList ++ List.drop (0 + (Value.agg cs.toArray).cells.size) olds = cs := by
    rw [hc, List.drop_of_length_le (by simp; omega)]
    simp
  rw [e] at hw
  exact h w' hw hk
end Go.Proofs.YtmaadimodjnnlaaGreatDoor
