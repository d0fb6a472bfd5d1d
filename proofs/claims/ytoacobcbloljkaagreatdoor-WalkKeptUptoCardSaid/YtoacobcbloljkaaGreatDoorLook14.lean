/-
  The reference of layer 14: what is known of a key.
-/
import Derived.Test.YtoacobcbloljkaaGreatDoorLikeSpec
import Derived.Test.YtoacobcbloljkaaGreatDoorWalkLow
import Derived.Deep.RegionHeld3
import Derived.Deep.DrawnRows
namespace Go.Proofs.YtoacobcbloljkaaGreatDoor
open Go.RowKit

/-- What fresh entries and a cache's lists know of a key. -/
def knownR (fresh L : List En) (W : List Int) (k : Key) : Option En := match firstOf fresh k with
  | some x => some x
  | none => match getE L k with
    | some x => some x
    | none => if W.contains k.1 = true then some (k, true, 0, 0, 0, []) else none

theorem Rel.known {l : List (Key × (En × Int))} {wh : List (Int × Bool)} {clk : Int} {L : List En} {W : List Int} (R : Rel l wh clk L W) (fresh : List En) (k : Key) : knownOf fresh l wh k = knownR fresh L W k := by
  unfold knownOf knownR
  cases firstOf fresh k with
  | some x => rfl
  | none =>
    have hg := R.getE k
    rw [← hg, R.isWhole]
    cases alGet l k <;> rfl

/-- What look answers. -/
def lookV (o : Option En) (k : Key) : Value := .tuple #[vEn (o.getD (k, true, 0, 0, 0, [])), .bool o.isSome]

attribute [local go_sem ↓] Go.wp_at_zero Go.wp_at_succ

/-- The blocks of a call of look. -/
structure LB (w0 : World) (B cb : Nat) (F : Nat → Prop) (A1 : Option Addr) (c1 : Nat) (A2 : Option Addr) (c2 : Nat) (L : List En) (W : List Int) (A : Option Addr) (n cp : Nat) (kd : Int) (kn : List UInt8) (V : World) : Prop where
  kb : At V w0.heap.size 48 [.pointer (some ⟨cb, 0, none⟩), .slice A n cp, .pointer none]
  yb : At V (w0.heap.size + 1) 32 [.int .i64 kd, .string ⟨kn.toArray⟩]
  rb : ∃ es, At V (w0.heap.size + 1 + 1) 36 es ∧ es.length = 7
  ra : RefAt V B cb F A1 c1 A2 c2 L W
  bl : Below w0.heap.size w0 V

section
variable {w0 V V' : World} {B cb : Nat} {F : Nat → Prop} {A1 : Option Addr} {c1 : Nat} {A2 : Option Addr} {c2 : Nat} {L : List En} {W : List Int} {A : Option Addr} {n cp : Nat} {kd : Int} {kn : List UInt8}
theorem LB.next (H : LB w0 B cb F A1 c1 A2 c2 L W A n cp kd kn V) (hb : Below V.heap.size V V') : LB w0 B cb F A1 c1 A2 c2 L W A n cp kd kn V' := by
  obtain ⟨es, h1, h2⟩ := H.rb
  exact ⟨H.kb.below hb, H.yb.below hb, ⟨es, h1.below hb, h2⟩, H.ra.below hb, H.bl.trans (hb.mono H.bl.size)⟩
end

theorem kp_sets (V : World) (g : Nat) (v0 v1 v2 v3 v4 v5 v6 : Value) : Kp (fun k => k ≠ g) V (((((((V.setCell ⟨g, 0, none⟩ v0).setCell ⟨g, 1, none⟩ v1).setCell ⟨g, 2, none⟩ v2).setCell ⟨g, 3, none⟩ v3).setCell ⟨g, 4, none⟩ v4).setCell ⟨g, 5, none⟩ v5).setCell ⟨g, 6, none⟩ v6).drew :=
  ((((((((Kp.refl _ V).setCell (fun _ k => k rfl) _).setCell (fun _ k => k rfl) _).setCell (fun _ k => k rfl) _).setCell (fun _ k => k rfl) _).setCell (fun _ k => k rfl) _).setCell (fun _ k => k rfl) _).setCell (fun _ k => k rfl) _).drew
theorem at_sets {V : World} {g : Nat} {t : TypeId} {q0 q1 q2 q3 q4 q5 q6 : Value} (H : At V g t [q0, q1, q2, q3, q4, q5, q6]) (v0 v1 v2 v3 v4 v5 v6 : Value) : At (((((((V.setCell ⟨g, 0, none⟩ v0).setCell ⟨g, 1, none⟩ v1).setCell ⟨g, 2, none⟩ v2).setCell ⟨g, 3, none⟩ v3).setCell ⟨g, 4, none⟩ v4).setCell ⟨g, 5, none⟩ v5).setCell ⟨g, 6, none⟩ v6).drew g t [v0, v1, v2, v3, v4, v5, v6] :=
  (((((((H.setCell 0 v0).setCell 1 v1).setCell 2 v2).setCell 3 v3).setCell 4 v4).setCell 5 v5).setCell 6 v6).drew
theorem refAt_sets {w0 V : World} {B cb : Nat} {F : Nat → Prop} {A1 : Option Addr} {c1 : Nat} {A2 : Option Addr} {c2 : Nat} {L : List En} {W : List Int} {A : Option Addr} {n cp : Nat} {kd : Int} {kn : List UInt8} (H0 : RefAt w0 B cb F A1 c1 A2 c2 L W) (H : LB w0 B cb F A1 c1 A2 c2 L W A n cp kd kn V)
    (v0 v1 v2 v3 v4 v5 v6 : Value) : RefAt ((((((((V.setCell ⟨w0.heap.size + 1 + 1, 0, none⟩ v0).setCell ⟨w0.heap.size + 1 + 1, 1, none⟩ v1).setCell ⟨w0.heap.size + 1 + 1, 2, none⟩ v2).setCell ⟨w0.heap.size + 1 + 1, 3, none⟩ v3).setCell ⟨w0.heap.size + 1 + 1, 4, none⟩ v4).setCell ⟨w0.heap.size + 1 + 1, 5, none⟩ v5).setCell ⟨w0.heap.size + 1 + 1, 6, none⟩ v6).drew) B cb F A1 c1 A2 c2 L W := by
  refine H.ra.kp (kp_sets V (w0.heap.size + 1 + 1) v0 v1 v2 v3 v4 v5 v6) ?_ ?_ ?_
  · have := H0.blk.lt
    omega
  · intro j hj
    have := (H0.lo.lt j hj).2
    omega
  · intro j hj
    have := (H0.wo.lt j hj).2
    omega

theorem at_full {w : World} {g : Nat} {t : TypeId} {es cs : List Value} (h : At w g t (es.take 0 ++ cs ++ es.drop (0 + cs.length))) (he : es.length = 7) (hc : cs.length = 7 := by rfl) : At w g t cs := by
  rw [List.drop_of_length_le (by omega)] at h
  simpa using h

set_option maxRecDepth 100000 in
set_option maxHeartbeats 8000000 in
theorem look14_any (w : World) (B cb : Nat) (F : Nat → Prop) (A1 : Option Addr) (c1 : Nat) (A2 : Option Addr) (c2 : Nat) (L : List En) (W : List Int) (A : Option Addr) (n cp : Nat) (fresh : List En) (k : Key)
    (hn : n ≤ 17592186044416) (hr : Rd w 7 A n (cEns fresh)) (hL : L.length ≤ 17592186044416) (hW : W.length ≤ 17592186044416) (H : RefAt w B cb F A1 c1 A2 c2 L W) :
    Calls Tryz.prog 68 #[.agg #[.pointer (some ⟨cb, 0, none⟩), .slice A n cp, .pointer none], vKey k] w fun r w' => r = .returned (lookV (knownR fresh L W k) k) ∧ Below w.heap.size w w' := by
  obtain ⟨kd, kn⟩ := k
  obtain ⟨lv, hlv⟩ : ∃ lv, lookV (knownR fresh L W (kd, kn)) (kd, kn) = lv := ⟨_, rfl⟩
  rw [hlv]
  have hget := fun V Hr => refGet_any V B cb F A1 c1 A2 c2 L W (kd, kn) hL Hr
  obtain ⟨okb, hok⟩ : ∃ b, (getE L (kd, kn)).isSome = b := ⟨_, rfl⟩
  obtain ⟨⟨⟨ed, en⟩, ng, ei, ek, em, et⟩, hE⟩ : ∃ x, (getE L (kd, kn)).getD noEn = x := ⟨_, rfl⟩
  rw [hok, hE] at hget
  simp only [vKey, vEn, txt] at hget
  have hlen := hr.en_len
  have HLV := Lib.hid hlv
  have HR := Lib.hid hr
  have HGET := Lib.hid hget
  have HOK := Lib.hid hok
  have HE := Lib.hid hE
  have HLEN := Lib.hid hlen
  have hlb : LB w B cb F A1 c1 A2 c2 L W A n cp kd kn (((w.alloc (.cells #[.pointer (some ⟨cb, 0, none⟩), .slice A n cp, .pointer none] 48)).alloc (.cells #[.int .i64 kd, .string ⟨kn.toArray⟩] 32)).alloc (.cells (cEn noEn).toArray 36)) :=
    ⟨((At.new w 48 [.pointer (some ⟨cb, 0, none⟩), .slice A n cp, .pointer none]).alloc _).alloc _, (At.new_ _ 32 [.int .i64 kd, .string ⟨kn.toArray⟩] (by simp)).alloc _, ⟨_, At.new_ _ 36 (cEn noEn) (by simp), rfl⟩, ((H.alloc _).alloc _).alloc _, (((Below.refl _ _).alloc (Nat.le_refl _) _).alloc (by simp) _).alloc (by simp; omega) _⟩
  have HLB := Lib.hid hlb
  have H0 := Lib.hid H
  clear hlv hr hget hok hE hlen hlb H
  unfold vKey
  simp only [txt]
  go_enter Tryz.func68, Tryz.ntmps68
  go_wp2_with fail
  go_loopw [8] (fun i wx => ∃ j : Nat, j ≤ n ∧ i = .int .i64 j ∧ Hid (LB w B cb F A1 c1 A2 c2 L W A n cp kd kn wx) ∧ Hid (∀ i y, i < j → fresh[i]? = some y → y.1 ≠ (kd, kn))) (fun i _ => n - (RowKit.intOf i).toNat)
  case atStart => exact ⟨0, by omega, rfl, HLB, fun i y hi => absurd hi (by omega)⟩
  case round =>
    obtain ⟨j, hj, rfl, HI, hno⟩ := hrel
    have k0 : wr.cell? ⟨w.heap.size, 0, none⟩ = some (.pointer (some ⟨cb, 0, none⟩)) := by rw [HI.out.kb.cell]; rfl
    have k1 : wr.cell? ⟨w.heap.size, 1, none⟩ = some (.slice A n cp) := by rw [HI.out.kb.cell]; rfl
    have y0 : wr.cell? ⟨w.heap.size + 1, 0, none⟩ = some (.int .i64 kd) := by rw [HI.out.yb.cell]; rfl
    have y1 : wr.cell? ⟨w.heap.size + 1, 1, none⟩ = some (.string ⟨kn.toArray⟩) := by rw [HI.out.yb.cell]; rfl
    by_cases hlt : j < n
    · obtain ⟨ad, xd, xn, xg, xi, xk, xm, xt, rfl, hbl, hx, x0, x1, x2, x3, x4, x5, x6⟩ := (HR.out.below HI.out.bl).en_at hlt
      have hq : ∀ V : World, (binOp .eql 32 (.agg #[.int .i64 xd, .string ⟨xn.toArray⟩]) (.agg #[.int .i64 kd, .string ⟨kn.toArray⟩])).run Tryz.prog V = .ok (.bool (decide (((xd, xn) : Key) = (kd, kn)))) V := fun V => eql_key (xd, xn) (kd, kn) V
      have HX := Lib.hid hx
      clear hx
      by_cases he : ((xd, xn) : Key) = (kd, kn)
      · rw [decide_eq_true he] at hq
        have hf := firstOf_at hno.out HX.out he
        have hv : lv = .tuple #[vEn ((xd, xn), xg, xi, xk, xm, xt), .bool true] := by
          rw [← HLV.out]
          unfold lookV knownR
          rw [hf]
          rfl
        have HV := Lib.hid hv
        obtain ⟨es, hrb, hes⟩ := HI.out.rb
        have HRB : Hid (∀ q, At (wr.drewN q) (w.heap.size + 1 + 1) 36 es) := fun q => hrb
        have HES := Lib.hid hes
        clear he hf hv hrb hes
        go_wp2_with fail
        go_quiet (fail)
        go_wp2_with ((with_reducible refine wpList_isStore 36 (.tmp 4) (.tmp 44) ?_); refine wpList_store_blk rfl 36 (.tmp 4) (.tmp 44) rfl (w.heap.size + 1 + 1) 0 (vEn ((xd, xn), xg, xi, xk, xm, xt)) rfl rfl (HRB.out _) info_entry ?c2 rfl ?_; (case c2 => rw [HES.out]; exact Nat.le_refl 7); intro w3 hr3 hk3 hz3; have HR3 : Hid (At w3 (w.heap.size + 1 + 1) 36 (cEn ((xd, xn), xg, xi, xk, xm, xt))) := at_full hr3 HES.out; have HK3 := Lib.hid hk3; clear hr3 hk3 hz3)
        obtain ⟨r0, r1, r2, r3, r4, r5, r6⟩ := En7 HR3.out
        simp only at r0 r1 r2 r3 r4 r5 r6
        refine bodyPost_ret (v := .tuple #[vEn ((xd, xn), xg, xi, xk, xm, xt), .bool true]) (by simp [results, Tryz.results68, go_sem, vEn, txt, r0, r1, r2, r3, r4, r5, r6]) rfl ⟨by rw [HV.out], ?_⟩
        exact (below_drewN_ HI.out.bl nq).trans (HK3.out.to_below (below_drewN_ HI.out.bl nq).size (fun k hk => by omega))
      · rw [decide_eq_false he] at hq
        have HQ := Lib.hid he
        clear he x2 x3 x4 x5 x6
        go_wp2_with fail
        go_quiet (fail)
        go_wp2_with fail
        go_roundw
        case rel =>
          refine ⟨j + 1, by omega, by go_num, HI.out.next (below_drewN_ (Below.refl _ _) _), fun i y hi hy => ?_⟩
          by_cases e : i = j
          · subst e
            rw [HX.out] at hy
            injection hy with hy
            subst hy
            exact HQ.out
          · exact hno.out i y (by omega) hy
        case measure => simp [RowKit.intOf] <;> omega
    · have hf : firstOf fresh (kd, kn) = none := firstOf_none fun i y hi hy => hno.out i y (by have := HLEN.out; omega) hy
      have HF := Lib.hid hf
      clear hf
      go_wp2_with fail
      refine (HGET.out _ HI.out.ra).mono ?_
      rintro r w2 ⟨rfl, hb2⟩
      have HI2 := Lib.hid (HI.out.next hb2)
      clear hb2 k0 k1 y0 y1
      cases okb with
      | true =>
        have hv : lv = .tuple #[vEn ((ed, en), ng, ei, ek, em, et), .bool true] := by
          rw [← HLV.out]
          unfold lookV knownR
          rw [HF.out]
          have h1 := HOK.out
          have h2 := HE.out
          cases hg : getE L (kd, kn) with
          | none => rw [hg] at h1; cases h1
          | some x => rw [hg] at h2; simp only [Option.getD_some] at h2; rw [h2]; rfl
        have HV := Lib.hid hv
        obtain ⟨es, hrb, hes⟩ := HI2.out.rb
        have HRB : Hid (∀ o, At (w2.alloc o) (w.heap.size + 1 + 1) 36 es) := fun o => hrb.alloc o
        have HES := Lib.hid hes
        have HBA : Hid (∀ o, Below w.heap.size w (w2.alloc o)) := fun o => HI2.out.bl.alloc HI2.out.bl.size o
        clear hv hrb hes
        go_wp2_with ((with_reducible refine wpList_isStore 36 (.tmp 4) (.tmp 53) ?_); refine wpList_hold ?_)
        refine Lib.hid ?_
        refine wpList_store_blk rfl 36 (.tmp 4) (.tmp 53) rfl (w.heap.size + 1 + 1) 0 (vEn ((ed, en), ng, ei, ek, em, et)) rfl rfl (HRB.out _) info_entry ?c2 rfl ?_
        case c2 => rw [HES.out]; exact Nat.le_refl 7
        intro w3 hr3 hk3 hz3
        have HR3 : Hid (At w3 (w.heap.size + 1 + 1) 36 (cEn ((ed, en), ng, ei, ek, em, et))) := at_full hr3 HES.out
        have HK3 := Lib.hid hk3
        clear hr3 hk3 hz3
        go_wp2_with fail
        obtain ⟨r0, r1, r2, r3, r4, r5, r6⟩ := En7 HR3.out
        simp only at r0 r1 r2 r3 r4 r5 r6
        refine bodyPost_ret (v := .tuple #[vEn ((ed, en), ng, ei, ek, em, et), .bool true]) (by simp [results, Tryz.results68, go_sem, vEn, txt, r0, r1, r2, r3, r4, r5, r6]) rfl ⟨by rw [HV.out], ?_⟩
        exact (HBA.out _).trans (HK3.out.to_below (HBA.out _).size (fun k hk => by omega))
      | false =>
        have hv : lv = .tuple #[vEn ((kd, kn), true, 0, 0, 0, []), .bool (W.contains kd)] := by
          rw [← HLV.out]
          unfold lookV knownR
          rw [HF.out]
          have h1 := HOK.out
          cases hg : getE L (kd, kn) with
          | some x => rw [hg] at h1; cases h1
          | none =>
            simp only
            cases W.contains kd <;> rfl
        have HV := Lib.hid hv
        clear hv
        have hw1 := fun V Hr => refIsWhole_any V B cb F A1 c1 A2 c2 L W kd hW Hr
        obtain ⟨wb, hwb⟩ : ∃ b, W.contains kd = b := ⟨_, rfl⟩
        rw [hwb] at hw1 HV
        have W1 := Lib.hid hw1
        clear hw1 hwb
        go_wp2_with fail
        obtain ⟨V, hV⟩ : ∃ V, w2.alloc (.cells #[.int .i64 ed, .string ⟨en.toArray⟩, .bool ng, .int .i64 ei, .int .i64 ek, .int .i64 em, .string ⟨et.toArray⟩] 36) = V := ⟨_, rfl⟩
        have HI3 := Lib.hid (HI2.out.next ((Below.refl _ _).alloc (Nat.le_refl _) (.cells #[.int .i64 ed, .string ⟨en.toArray⟩, .bool ng, .int .i64 ei, .int .i64 ek, .int .i64 em, .string ⟨et.toArray⟩] 36)))
        rw [hV] at HI3 ⊢
        clear hV
        obtain ⟨es, hrb, hes⟩ := HI3.out.rb
        match es, hes with
        | [q0, q1, q2, q3, q4, q5, q6], _ =>
          have k0 : V.cell? ⟨w.heap.size, 0, none⟩ = some (.pointer (some ⟨cb, 0, none⟩)) := by rw [HI3.out.kb.cell]; rfl
          have y0 : V.cell? ⟨w.heap.size + 1, 0, none⟩ = some (.int .i64 kd) := by rw [HI3.out.yb.cell]; rfl
          have y1 : V.cell? ⟨w.heap.size + 1, 1, none⟩ = some (.string ⟨kn.toArray⟩) := by rw [HI3.out.yb.cell]; rfl
          have z0 : V.cell? ⟨w.heap.size + 1 + 1, 0, none⟩ = some q0 := by rw [hrb.cell]; rfl
          have z1 : V.cell? ⟨w.heap.size + 1 + 1, 1, none⟩ = some q1 := by rw [hrb.cell]; rfl
          have z2 : V.cell? ⟨w.heap.size + 1 + 1, 2, none⟩ = some q2 := by rw [hrb.cell]; rfl
          have z3 : V.cell? ⟨w.heap.size + 1 + 1, 3, none⟩ = some q3 := by rw [hrb.cell]; rfl
          have z4 : V.cell? ⟨w.heap.size + 1 + 1, 4, none⟩ = some q4 := by rw [hrb.cell]; rfl
          have z5 : V.cell? ⟨w.heap.size + 1 + 1, 5, none⟩ = some q5 := by rw [hrb.cell]; rfl
          have z6 : V.cell? ⟨w.heap.size + 1 + 1, 6, none⟩ = some q6 := by rw [hrb.cell]; rfl
          have fz : ∀ k, V.frozen? ⟨w.heap.size + 1 + 1, k, none⟩ = false := fun k => hrb.frozen k
          have HRB := Lib.hid hrb
          clear hrb
          go_region_with (first
            | (go_at_call 79; refine (W1.out _ (HI3.out.ra.drew)).mono ?_; rintro r w7 ⟨rfl, rfl⟩)
            | (go_at_call 79; refine (W1.out _ (refAt_sets H0.out HI3.out _ _ _ _ _ _ _)).mono ?_; rintro r w7 ⟨rfl, rfl⟩))
          all_goals
            have hat := at_sets HRB.out (.int .i64 kd) (.string ⟨kn.toArray⟩) (.bool true) (.int .i64 0) (.int .i64 0) (.int .i64 0) (.string ⟨#[]⟩)
            have hkp := kp_sets V (w.heap.size + 1 + 1) (.int .i64 kd) (.string ⟨kn.toArray⟩) (.bool true) (.int .i64 0) (.int .i64 0) (.int .i64 0) (.string ⟨#[]⟩)
            have HAT := Lib.hid hat
            have HKP := Lib.hid hkp
            clear hat hkp k0 y0 y1 z0 z1 z2 z3 z4 z5 z6 fz
            revert HAT HKP
            generalize World.drew _ = w9
            intro HAT HKP
            go_wp2_with fail
            obtain ⟨r0, r1, r2, r3, r4, r5, r6⟩ := En7 (x := ((kd, kn), true, 0, 0, 0, [])) HAT.out
            simp only at r0 r1 r2 r3 r4 r5 r6
            refine bodyPost_ret (v := .tuple #[vEn ((kd, kn), true, 0, 0, 0, []), .bool wb]) (by simp [results, Tryz.results68, go_sem, vEn, txt, r0, r1, r2, r3, r4, r5, r6]) rfl ⟨by rw [HV.out], ?_⟩
            exact HI3.out.bl.trans (HKP.out.to_below HI3.out.bl.size (fun k hk => by omega))
end Go.Proofs.YtoacobcbloljkaaGreatDoor
