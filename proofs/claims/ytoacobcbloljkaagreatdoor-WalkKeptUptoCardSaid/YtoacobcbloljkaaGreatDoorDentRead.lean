/-
  What a cache tells without lists: Len, Negatives, Leaf.
-/
import Derived.Test.YtoacobcbloljkaaGreatDoorDent
import Derived.Test.YtoacobcbloljkaaGreatDoorLow
namespace Go.Proofs.YtoacobcbloljkaaGreatDoor
open Go.RowKit

def negsL (l : List (Key × (En × Int))) : Nat := (l.filter fun p => p.2.1.2.1).length

theorem negsL_perm {l l' : List (Key × (En × Int))} (h : l.Perm l') : negsL l = negsL l' := (h.filter _).length_eq
theorem negsL_cons (p : Key × (En × Int)) (l : List (Key × (En × Int))) : negsL (p :: l) = (if p.2.1.2.1 = true then 1 else 0) + negsL l := by
  unfold negsL
  rw [List.filter_cons]
  split <;> simp <;> omega

theorem dentLen_any (w : World) (c e h : Nat) (l : List (Key × (En × Int))) (wh : List (Int × Bool)) (clk : Int) (H : CacheAt w c e h l wh clk) :
    Calls Tryz.prog 71 #[.pointer (some ⟨c, 0, none⟩)] w fun r w' => r = .returned (.int .i64 l.length) ∧ w = w' := by
  have c0 : w.cell? ⟨c, 0, none⟩ = some (.map (some e)) := by rw [blk_cell H.blk]; rfl
  have hrun := H.me.len (P := Tryz.prog) (ty := 3) (t := 129) Tryz.underlying129
  have HM := Lib.hid H.me
  clear H
  go_enter Tryz.func71, Tryz.ntmps71
  go_wp2_with ((with_reducible refine wpList_isBuiltin .len ?_); refine wpList_len_T rfl (.tmp 6) 129 rfl Tryz.underlying129 rfl HM.out ?_)
  go_ret
  exact ⟨rfl, rfl⟩

/-- A map of the cache is gone through. -/
structure DentIn (w0 : World) (c e h : Nat) (l : List (Key × (En × Int))) (wh : List (Int × Bool)) (clk : Int) (r : Nat) (rem : List (Key × (En × Int))) (W : World) : Prop where
  ca : CacheAt W c e h l wh clk
  it : MapI vKey vKept W r e l rem
  bl : Below w0.heap.size w0 W
  sz : w0.heap.size ≤ r
  hc : c < w0.heap.size
  he : e < w0.heap.size
  hh : h < w0.heap.size

section
variable {w0 W W' : World} {c e h : Nat} {l rem : List (Key × (En × Int))} {wh : List (Int × Bool)} {clk : Int} {r : Nat}
theorem DentIn.start (H : CacheAt W c e h l wh clk) (hi : MapI vKey vKept W' W.heap.size e l l) (hb : Below W.heap.size W W') (h0 : Below w0.heap.size w0 W) (hc : c < w0.heap.size) (he : e < w0.heap.size) (hh : h < w0.heap.size) : DentIn w0 c e h l wh clk W.heap.size l W' :=
  ⟨H.below hb, hi, h0.trans (hb.mono h0.size), h0.size, hc, he, hh⟩
theorem DentIn.kp (H : DentIn w0 c e h l wh clk r rem W) {Q : Nat → Prop} (k : Kp Q W W') (hQ : ∀ j, j < w0.heap.size ∨ j = r → Q j) : DentIn w0 c e h l wh clk r rem W' :=
  ⟨H.ca.kp k (hQ _ (.inl H.hc)) (hQ _ (.inl H.he)) (hQ _ (.inl H.hh)), H.it.kp k (hQ _ (.inl H.he)) (hQ _ (.inr rfl)), (Kp.trans (P := Q) (Kp.of_below H.bl) k).to_below (Nat.le_refl _) (fun j hj => hQ j (.inl hj)), H.sz, H.hc, H.he, H.hh⟩
theorem DentIn.below (H : DentIn w0 c e h l wh clk r rem W) (k : Below W.heap.size W W') : DentIn w0 c e h l wh clk r rem W' := H.kp (Kp.of_below (P := fun _ => True) k) fun _ _ => trivial
theorem DentIn.alloc (H : DentIn w0 c e h l wh clk r rem W) (o : Obj) : DentIn w0 c e h l wh clk r rem (W.alloc o) := H.below ((Below.refl _ _).alloc (Nat.le_refl _) _)
theorem DentIn.next (H : DentIn w0 c e h l wh clk r rem W) {rem' : List (Key × (En × Int))} (hi : MapI vKey vKept W' r e l rem') (hg : W.grownBy W' (some r)) : DentIn w0 c e h l wh clk r rem' W' := by
  have hk : Kp (fun j => j ≠ r) W W' := (Kp.refl _ W).grown hg fun i q _ k => k (by injection q with q; exact q.symm)
  have hs := H.sz
  refine ⟨H.ca.kp hk ?_ ?_ ?_, hi, H.bl.grown hg H.bl.size (fun k q => by injection q with q; omega), H.sz, H.hc, H.he, H.hh⟩
  · have := H.hc; omega
  · have := H.he; omega
  · have := H.hh; omega
end

set_option maxRecDepth 100000 in
set_option maxHeartbeats 2000000 in
theorem dentNegatives_any (w : World) (c e h : Nat) (l : List (Key × (En × Int))) (wh : List (Int × Bool)) (clk : Int) (H : CacheAt w c e h l wh clk) (hn : l.length ≤ 17592186044416) :
    Calls Tryz.prog 72 #[.pointer (some ⟨c, 0, none⟩)] w fun r w' => r = .returned (.int .i64 (negsL l)) ∧ Below w.heap.size w w' := by
  have c0 : w.cell? ⟨c, 0, none⟩ = some (.map (some e)) := by rw [blk_cell H.blk]; rfl
  have h1 := H.c_lt
  have h2 := H.me.lt
  have h3 := H.mw.lt
  have HH := Lib.hid H
  clear H
  go_enter Tryz.func72, Tryz.ntmps72
  go_wp2_with ((with_reducible refine wpList_isRange ?_); refine wpList_range_T rfl (.tmp 9) 129 rfl Tryz.underlying129 rfl HH.out.me ?_; intro w3 hi3 hb3; have HI3 : Hid (DentIn w c e h l wh clk w.heap.size l w3) := DentIn.start HH.out hi3 hb3 (Below.refl _ _) h1 h2 h3; clear hi3 hb3)
  go_frame
  go_loopg [3] l.length (fun g v wx => ∃ (rem : List (Key × (En × Int))) (q : Nat), g = rem.length ∧ v = .int .i64 q ∧ Hid (DentIn w c e h l wh clk w.heap.size rem wx) ∧ q + negsL rem = negsL l ∧ q + rem.length ≤ l.length)
  case atStart => exact ⟨l, 0, rfl, rfl, HI3, by omega, by omega⟩
  case round =>
    obtain ⟨rem, q, rfl, rfl, HI, hq, hql⟩ := hrel
    rcases MapI.next (P := Tryz.prog) HI.out.it 0 with ⟨hrem, hrun⟩ | ⟨⟨⟨pd, pn⟩, pv⟩, rem', w4, hperm, hrun, hit, hgr, hent⟩
    · have hfin : q = negsL l := by rw [hrem] at hq; simpa [negsL] using hq
      have HF := Lib.hid hfin
      clear hrem hfin hq
      go_wp2_with fail
      clear hrun
      go_ret
      exact ⟨by rw [HF.out]; rfl, HI.out.bl⟩
    · have HI4 := Lib.hid (HI.out.next hit hgr)
      have hp1 := negsL_perm hperm
      rw [negsL_cons] at hp1
      have hp2 := hperm.length_eq
      simp only [List.length_cons] at hp2
      obtain ⟨⟨⟨ed, en⟩, ng, ei, ek, em, et⟩, us⟩ := pv
      simp only [vKey, vKept, txt] at hrun hent
      simp only at hp1
      clear hperm hit hgr
      have HP1 := Lib.hid hp1
      clear hp1
      cases ng with
      | true =>
        go_wp2_with fail
        clear hrun hent
        go_roundg rem'.length
        case measure => omega
        case rel => exact ⟨rem', q + 1, rfl, by go_num, HI4.out.alloc _, by have := HP1.out; simp at this; omega, by omega⟩
      | false =>
        go_wp2_with fail
        clear hrun hent
        go_roundg rem'.length
        case measure => omega
        case rel => exact ⟨rem', q, rfl, rfl, HI4.out.alloc _, by have := HP1.out; simp at this; omega, by omega⟩

/-- Where an entry leads to. -/
def leafId (x : En × Int) : Int := if x.1.2.1 = true then 0 else x.1.2.2.1
def zKept : En × Int := (((0, []), false, 0, 0, 0, []), 0)
def cKept (p : En × Int) : List Value := [.int .i64 p.1.1.1, txt p.1.1.2, .bool p.1.2.1, .int .i64 p.1.2.2.1, .int .i64 p.1.2.2.2.1, .int .i64 p.1.2.2.2.2.1, txt p.1.2.2.2.2.2, .int .i64 p.2]
/-- Does nothing hang below an entry? -/
def leafL (l : List (Key × (En × Int))) (k : Key) : Bool := (alGet l k).isSome && !(l.any fun p => decide (p.1.1 = leafId ((alGet l k).getD zKept)))

set_option maxRecDepth 100000 in
set_option maxHeartbeats 4000000 in
theorem dentLeaf_any (w : World) (c e h : Nat) (l : List (Key × (En × Int))) (wh : List (Int × Bool)) (clk : Int) (k : Key) (H : CacheAt w c e h l wh clk) :
    Calls Tryz.prog 76 #[.pointer (some ⟨c, 0, none⟩), vKey k] w fun r w' => r = .returned (.bool (leafL l k)) ∧ Below w.heap.size w w' := by
  obtain ⟨d, n⟩ := k
  have hc0 : w.cell? ⟨c, 0, none⟩ = some (.map (some e)) := by rw [blk_cell H.blk]; rfl
  have hca : ∀ o, (w.alloc o).cell? ⟨c, 0, none⟩ = some (.map (some e)) := fun o => cell_alloc_old hc0 o
  have hcb : ∀ o o', ((w.alloc o).alloc o').cell? ⟨c, 0, none⟩ = some (.map (some e)) := fun o o' => cell_alloc_old (hca o) o'
  have hlt := H.c_lt
  have hlte := H.me.lt
  have hlth := H.mw.lt
  have hz : ∀ W : World, (zeroValue 134).run Tryz.prog W = .ok (vKept (((0, []), false, 0, 0, 0, []), 0)) W := fun W => by kernel_rfl
  have hl : ∀ W : World, MapT vKey vKept W e l → (Instr.lookup 129 (.map (some e)) (vKey (d, n)) true).run Tryz.prog W = .ok (.tuple #[((alGet l (d, n)).map vKept).getD (vKept (((0, []), false, 0, 0, 0, []), 0)), .bool (alGet l (d, n)).isSome]) W :=
    fun W hm => by simpa using hm.lookup keyK_key Tryz.underlying129 (hz W) (d, n) true
  have ha : ∀ o, (Instr.lookup 129 (.map (some e)) (vKey (d, n)) true).run Tryz.prog (w.alloc o).drew = _ := fun o => hl _ (H.me.alloc o)
  have hb : ∀ o o', (Instr.lookup 129 (.map (some e)) (vKey (d, n)) true).run Tryz.prog ((w.alloc o).alloc o').drew = _ := fun o o' => hl _ ((H.me.alloc o).alloc o')
  clear hl hz
  obtain ⟨okk, hok⟩ : ∃ b, (alGet l (d, n)).isSome = b := ⟨_, rfl⟩
  obtain ⟨kv, hkv⟩ : ∃ x, (alGet l (d, n)).getD zKept = x := ⟨_, rfl⟩
  have hv : ((alGet l (d, n)).map vKept).getD (vKept (((0, []), false, 0, 0, 0, []), 0)) = vKept kv := by
    rw [← hkv]
    cases alGet l (d, n) <;> rfl
  rw [hv, hok] at ha hb
  have hres : leafL l (d, n) = (okk && !(l.any fun p => decide (p.1.1 = leafId kv))) := by unfold leafL; rw [hok, hkv]
  rw [hres]
  obtain ⟨⟨⟨ed, en⟩, ng, ei, ek, em, et⟩, us⟩ := kv
  obtain ⟨idv, hid⟩ : ∃ v, leafId (((ed, en), ng, ei, ek, em, et), us) = v := ⟨_, rfl⟩
  rw [hid]
  unfold vKey vKept at *
  simp only [txt] at *
  have HH := Lib.hid H
  have HID := Lib.hid hid
  clear H hv hok hkv hres hid
  go_enter Tryz.func76, Tryz.ntmps76
  go_wp2_with fail
  go_region
  all_goals
    clear ha hb hca hcb
    obtain ⟨W, hW⟩ : ∃ W, ((w.alloc (.cells #[.int .i64 d, .string ⟨n.toArray⟩] 32)).alloc (.cells #[.int .i64 ed, .string ⟨en.toArray⟩, .bool ng, .int .i64 ei, .int .i64 ek, .int .i64 em, .string ⟨et.toArray⟩, .int .i64 us] 134)).drew = W := ⟨_, rfl⟩
    have HC : Hid (CacheAt W c e h l wh clk) := by
      rw [← hW]
      exact ((HH.out.alloc _).alloc _).drew
    have HB : Hid (Below w.heap.size w W) := by
      rw [← hW]
      exact below_drew (((Below.refl _ w).alloc (Nat.le_refl _) _).alloc (by simp) _)
    have HK : Hid (At W (w.heap.size + 1) 134 [.int .i64 ed, .string ⟨en.toArray⟩, .bool ng, .int .i64 ei, .int .i64 ek, .int .i64 em, .string ⟨et.toArray⟩, .int .i64 us]) := by
      rw [← hW]
      exact At.new_ _ _ [.int .i64 ed, .string ⟨en.toArray⟩, .bool ng, .int .i64 ei, .int .i64 ek, .int .i64 em, .string ⟨et.toArray⟩, .int .i64 us] (by simp)
    rw [hW]
    clear hW hc0
    have k2 : W.cell? ⟨w.heap.size + 1, 2, none⟩ = some (.bool ng) := by rw [HK.out.cell]; rfl
    have k3 : W.cell? ⟨w.heap.size + 1, 3, none⟩ = some (.int .i64 ei) := by rw [HK.out.cell]; rfl
    have c0 : W.cell? ⟨c, 0, none⟩ = some (.map (some e)) := by rw [blk_cell HC.out.blk]; rfl
    go_upto_if 24 with fail
    go_cut [7] (fun v wd => v = .int .i64 idv ∧ W = wd)
    case first =>
      cases ng with
      | true =>
        go_wp2_with fail
        go_meet
        case rel => exact ⟨by rw [← HID.out]; rfl, rfl⟩
      | false =>
        go_wp2_with fail
        go_meet
        case rel => exact ⟨by rw [← HID.out]; rfl, rfl⟩
    case rest =>
      obtain ⟨rfl, rfl⟩ := hcut
      clear k2 k3
      go_wp2_with ((with_reducible refine wpList_isRange ?_); refine wpList_range_T rfl (.tmp 28) 129 rfl Tryz.underlying129 rfl HC.out.me ?_; intro w3 hi3 hb3; have HI3 : Hid (DentIn w c e h l wh clk W.heap.size l w3) := DentIn.start HC.out hi3 hb3 HB.out hlt hlte hlth; clear hi3 hb3)
      go_frame
      go_loopg [] l.length (fun g wx => ∃ (rem : List (Key × (En × Int))), g = rem.length ∧ Hid (DentIn w c e h l wh clk W.heap.size rem wx) ∧ Hid ((l.any fun p => decide (p.1.1 = idv)) = rem.any fun p => decide (p.1.1 = idv)))
      case atStart => exact ⟨l, rfl, HI3, rfl⟩
      case round =>
        obtain ⟨rem, rfl, HI, HA⟩ := hrel
        rcases MapI.next (P := Tryz.prog) HI.out.it 0 with ⟨hrem, hrun⟩ | ⟨⟨⟨pd, pn⟩, pv⟩, rem', w4, hperm, hrun, hit, hgr, hent⟩
        · have hfin : (l.any fun p => decide (p.1.1 = idv)) = false := by rw [HA.out, hrem]; rfl
          have HF := Lib.hid hfin
          clear hrem hfin
          go_wp2_with fail
          clear hrun
          go_ret
          exact ⟨by rw [HF.out]; simp, HI.out.bl⟩
        · have HI4 := Lib.hid (HI.out.next hit hgr)
          have hp2 := hperm.length_eq
          simp only [List.length_cons] at hp2
          have hany : (rem.any fun p => decide (p.1.1 = idv)) = (decide (pd = idv) || rem'.any fun p => decide (p.1.1 = idv)) := by
            rw [hperm.any_eq]
            rfl
          have HY := Lib.hid hany
          simp only [vKey, txt] at hrun hent
          clear hperm hit hgr hany
          cases hq : (pd == idv) with
          | true =>
            have hpd : pd = idv := by simpa using hq
            have hfin : (l.any fun p => decide (p.1.1 = idv)) = true := by rw [HA.out, HY.out, hpd]; simp
            have HF := Lib.hid hfin
            clear hpd hfin
            go_wp2_with fail
            clear hrun hent
            go_ret
            exact ⟨by rw [HF.out]; simp, (HI4.out.alloc _).bl⟩
          | false =>
            have hpd : pd ≠ idv := by simpa using hq
            have hfin : (rem.any fun p => decide (p.1.1 = idv)) = rem'.any fun p => decide (p.1.1 = idv) := by rw [HY.out]; simp [hpd]
            have HF := Lib.hid hfin
            clear hpd hfin
            go_wp2_with fail
            clear hrun hent
            go_roundg rem'.length
            case measure => omega
            case rel => exact ⟨rem', rfl, HI4.out.alloc _, HA.out.trans HF.out⟩
end Go.Proofs.YtoacobcbloljkaaGreatDoor
