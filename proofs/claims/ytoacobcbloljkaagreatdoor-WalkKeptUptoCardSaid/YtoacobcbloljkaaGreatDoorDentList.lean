/-
  What a cache tells as lists: Entries, Names.
-/
import Derived.Test.YtoacobcbloljkaaGreatDoorDentRead
import Derived.Test.YtoacobcbloljkaaGreatDoorLow
import Derived.Test.YtoacobcbloljkaaGreatDoorSortK
import Derived.Test.YtoacobcbloljkaaGreatDoorSorts
import Derived.Test.YtoacobcbloljkaaGreatDoorRef12b
namespace Go.Proofs.YtoacobcbloljkaaGreatDoor
open Go.RowKit Go.Sort Go.Shelf

def cKepts (l : List (En × Int)) : List Value := l.flatMap cKept
theorem cKept_len (x : En × Int) : (cKept x).length = 8 := rfl
theorem cKept_one (x : En × Int) : ∀ v ∈ cKept x, v.oneCell' = true := by
  intro u hu
  simp only [cKept, List.mem_cons, List.not_mem_nil, or_false] at hu
  rcases hu with rfl | rfl | rfl | rfl | rfl | rfl | rfl | rfl <;> rfl
theorem info_kept : (Tryz.prog.info? 134).map (fun i => (i.zero, i.size, i.bytes)) = some (some (vKept zKept), 8, 80) := by kernel_rfl
theorem elemKept : Elem Tryz.prog 177 134 8 80 := Elem.mk_ Tryz.underlying177 info_kept rfl (by decide)

/-! ## The comparisons -/
set_option maxHeartbeats 1000000 in
theorem byUsed_any (x y : En × Int) (W : World) :
    Calls Tryz.prog 117 #[.agg (cKept x).toArray, .agg (cKept y).toArray] W fun e w' => e = .returned (.int .i64 (cI x.2 y.2)) ∧ ∃ q os', w' = grow (W.drewN q) os' := by
  obtain ⟨⟨⟨xd, xn⟩, xg, xi, xk, xm, xt⟩, xu⟩ := x
  obtain ⟨⟨⟨yd, yn⟩, yg, yi, yk, ym, yt⟩, yu⟩ := y
  have hcon := fun W' => cmpI_any xu yu W'
  simp only
  generalize cI xu yu = r at hcon ⊢
  unfold cKept
  simp only [txt]
  go_enter Tryz.func117, Tryz.ntmps117
  go_wp2_with (go_at_call 118; refine (hcon _).mono ?_; rintro e w' ⟨rfl, rfl⟩)
  go_ret
  exact ⟨rfl, 0, _, by rw [alloc_eq_grow, alloc_eq_grow, grow_grow]; rfl⟩

set_option maxHeartbeats 1000000 in
theorem byName_any (x y : En) (W : World) :
    Calls Tryz.prog 92 #[.agg (cEn x).toArray, .agg (cEn y).toArray] W fun e w' => e = .returned (.int .i64 (cS x.1.2 y.1.2)) ∧ ∃ q os', w' = grow (W.drewN q) os' := by
  obtain ⟨⟨xd, xn⟩, xg, xi, xk, xm, xt⟩ := x
  obtain ⟨⟨yd, yn⟩, yg, yi, yk, ym, yt⟩ := y
  have hcon := fun W' => cmpS_any ⟨xn.toArray⟩ ⟨yn.toArray⟩ W'
  simp only [toList_mk] at hcon ⊢
  generalize cS xn yn = r at hcon ⊢
  unfold cEn
  simp only [txt]
  go_enter Tryz.func92, Tryz.ntmps92
  go_wp2_with (go_at_call 93; refine (hcon _).mono ?_; rintro e w' ⟨rfl, rfl⟩)
  go_ret
  exact ⟨rfl, 0, _, by rw [alloc_eq_grow, alloc_eq_grow, grow_grow]; rfl⟩

theorem sortKept_any (w : World) (base : Nat) (v : Value) (l : List (En × Int)) (hown : w.ownsRow base 134 8 v l.length (cKepts l)) (hn : l.length < 4611686018427387904) :
    Calls Tryz.prog 116 #[v, .func (.func 117) #[] #[]] w (SortPost w base 134 8 v cKept (fun x y => cI x.2 y.2) l) :=
  sortFunc_own Tryz.sortKept 8 Tryz.isAgg134 Tryz.sizeOf134 cKept cKept_len cKept_one (fun x y => cI x.2 y.2) (swoI fun x : En × Int => x.2) 117 (enters_of Tryz.func117 (by kernel_rfl) rfl) byUsed_any w base 134 v l hown hn
theorem sortEntry_any (w : World) (base : Nat) (v : Value) (l : List En) (hown : w.ownsRow base 36 7 v l.length (cEns l)) (hn : l.length < 4611686018427387904) :
    Calls Tryz.prog 91 #[v, .func (.func 92) #[] #[]] w (SortPost w base 36 7 v cEn (fun x y => cS x.1.2 y.1.2) l) :=
  sortFunc_own Tryz.sortEntry 7 Tryz.isAgg36 Tryz.sizeOf36 cEn cEn_len cEn_one (fun x y => cS x.1.2 y.1.2) (swoS fun x : En => x.1.2) 92 (enters_of Tryz.func92 (by kernel_rfl) rfl) byName_any w base 36 v l hown hn

/-! ## A map is gone through, a list grows -/
/-- As DentIn; v is a slice of the call's own that holds xs. -/
structure DentOn (w0 : World) (c e h : Nat) (l : List (Key × (En × Int))) (wh : List (Int × Bool)) (clk : Int) (r : Nat) (rem : List (Key × (En × Int))) (t : TypeId) (sz : Nat) (v : Value) (n : Nat) (xs : List Value) (W : World) : Prop where
  d : DentIn w0 c e h l wh clk r rem W
  own : W.ownsRow w0.heap.size t sz v n xs
  ne : v.ownBlock ≠ some r

section
variable {w0 W W' : World} {c e h : Nat} {l rem rem' : List (Key × (En × Int))} {wh : List (Int × Bool)} {clk : Int} {r : Nat} {t : TypeId} {sz : Nat} {v v' : Value} {n m : Nat} {xs ys : List Value}
theorem DentOn.next (H : DentOn w0 c e h l wh clk r rem t sz v n xs W) (hi : MapI vKey vKept W' r e l rem') (hg : W.grownBy W' (some r)) : DentOn w0 c e h l wh clk r rem' t sz v n xs W' :=
  ⟨H.d.next hi hg, H.own.kept hg (.inr H.ne), H.ne⟩
theorem DentOn.alloc (H : DentOn w0 c e h l wh clk r rem t sz v n xs W) (o : Obj) : DentOn w0 c e h l wh clk r rem t sz v n xs (W.alloc o) :=
  ⟨H.d.alloc o, own_below H.own ((Below.refl _ _).alloc (Nat.le_refl _) o), H.ne⟩
theorem DentOn.drewN (H : DentOn w0 c e h l wh clk r rem t sz v n xs W) (q : Nat) : DentOn w0 c e h l wh clk r rem t sz v n xs (W.drewN q) :=
  ⟨H.d.kp ((Kp.refl (fun _ => True) W).drewN q) fun _ _ => trivial, H.own, H.ne⟩
theorem DentOn.push (H : DentOn w0 c e h l wh clk r rem t sz v n xs W) (hown : W'.ownsRow w0.heap.size t sz v' m ys) (hg : W.grownBy W' v.ownBlock) (hb : v'.ownBlock = v.ownBlock ∨ v'.ownBlock = some W.heap.size) : DentOn w0 c e h l wh clk r rem t sz v' m ys W' := by
  have hk : Kp (fun j => v.ownBlock ≠ some j) W W' := (Kp.refl _ W).grown hg fun i q _ k => k q
  refine ⟨H.d.kp hk ?_, hown, ?_⟩
  · rintro j (hj | rfl)
    · intro q
      have := (H.own.lt j q).1
      omega
    · exact H.ne
  · rcases hb with e1 | e1
    · rw [e1]; exact H.ne
    · rw [e1]
      have := H.d.it.lt
      intro q
      injection q with q
      omega
end

/-- What Entries leaves. -/
def EntPost (w : World) (l : List (Key × (En × Int))) (r : Ending) (w' : World) : Prop :=
  ∃ (v : Value) (Z : List (En × Int)), r = .returned v ∧ Z.Perm (l.map Prod.snd) ∧ Z.Pairwise (fun x y => x.2 ≤ y.2) ∧ w'.ownsRow w.heap.size 36 7 v Z.length (cEns (Z.map Prod.fst)) ∧ Below w.heap.size w w'

/-- What Names leaves. -/
def NamesPost (w : World) (l : List (Key × (En × Int))) (d : Int) (r : Ending) (w' : World) : Prop :=
  ∃ (v : Value) (E : List En), r = .returned v ∧ E.Perm ((l.map fun p => p.2.1).filter fun x => decide (x.1.1 = d) && !x.2.1) ∧ E.Pairwise (fun x y => ¬ y.1.2 < x.1.2) ∧ w'.ownsRow w.heap.size 36 7 v E.length (cEns E) ∧ Below w.heap.size w w'

set_option maxRecDepth 100000 in
set_option maxHeartbeats 4000000 in
theorem dentNames_any (w : World) (c e h : Nat) (l : List (Key × (En × Int))) (wh : List (Int × Bool)) (clk : Int) (d : Int) (H : CacheAt w c e h l wh clk) (hn : l.length ≤ 1256584717421) :
    Calls Tryz.prog 34 #[.pointer (some ⟨c, 0, none⟩), .int .i64 d] w (NamesPost w l d) := by
  have c0 : w.cell? ⟨c, 0, none⟩ = some (.map (some e)) := by rw [blk_cell H.blk]; rfl
  have h1 := H.c_lt
  have h2 := H.me.lt
  have h3 := H.mw.lt
  have HH := Lib.hid H
  clear H
  go_enter Tryz.func34, Tryz.ntmps34
  go_wp2_with ((with_reducible refine wpList_isRange ?_); refine wpList_range_T rfl (.tmp 11) 129 rfl Tryz.underlying129 rfl HH.out.me ?_; intro w3 hi3 hb3; have HI3 : Hid (DentOn w c e h l wh clk w.heap.size l 36 7 (.slice none 0 0) 0 (cEns []) w3) := ⟨DentIn.start HH.out hi3 hb3 (Below.refl _ _) h1 h2 h3, World.ownsRow_nil _ _ _ _, by simp [Value.ownBlock]⟩; clear hi3 hb3)
  go_frame
  go_loopg [5] l.length (fun g v wx => ∃ (rem : List (Key × (En × Int))) (E : List En), g = rem.length ∧ Hid (DentOn w c e h l wh clk w.heap.size rem 36 7 v E.length (cEns E) wx) ∧ E.length + rem.length ≤ l.length ∧
    Hid ((E ++ (rem.map fun p => p.2.1).filter fun x => decide (x.1.1 = d) && !x.2.1).Perm ((l.map fun p => p.2.1).filter fun x => decide (x.1.1 = d) && !x.2.1)))
  case atStart => exact ⟨l, [], rfl, HI3, by simp, List.Perm.refl _⟩
  case round =>
    obtain ⟨rem, E, rfl, HI, hle, HP⟩ := hrel
    rcases MapI.next (P := Tryz.prog) HI.out.d.it 0 with ⟨hrem, hrun⟩ | ⟨⟨⟨pd, pn⟩, pv⟩, rem', w4, hperm, hrun, hit, hgr, hent⟩
    · have hfin : E.Perm ((l.map fun p => p.2.1).filter fun x => decide (x.1.1 = d) && !x.2.1) := by
        have := HP.out
        rw [hrem] at this
        simpa using this
      have HF := Lib.hid hfin
      clear hrem hfin
      have hlt := HI.out.d.sz
      go_wp2_with (go_at_call 91; refine (sortEntry_any _ w.heap.size _ E HI.out.own (by omega)).mono ?_; rintro r w5 ⟨rfl, E2, hp2, hs2, hown2, hg2⟩; have HS := Lib.hid hs2; have HO2 := Lib.hid hown2; have HP2 := Lib.hid hp2; have HG2 := Lib.hid hg2; clear hs2 hown2 hp2 hg2)
      clear hrun
      go_ret
      refine ⟨_, E2, rfl, HP2.out.trans HF.out, ?_, ?_, ?_⟩
      · refine HS.out.imp fun {x y} hxy => ?_
        unfold ltOf at hxy
        rw [cS_lt] at hxy
        simpa using hxy
      · rw [HP2.out.length_eq]
        exact HO2.out
      · exact HI.out.d.bl.grown HG2.out HI.out.d.bl.size (fun k q => (HI.out.own.lt k q).1)
    · have HI4 := Lib.hid (HI.out.next hit hgr)
      have hp2 := hperm.length_eq
      simp only [List.length_cons] at hp2
      have HPM := Lib.hid hperm
      obtain ⟨⟨⟨ed, en⟩, ng, ei, ek, em, et⟩, us⟩ := pv
      simp only [vKey, vKept, txt] at hrun hent
      clear hperm hit hgr
      have skip : (decide (ed = d) && !ng) = false → Hid ((E ++ (rem'.map fun p => p.2.1).filter fun x => decide (x.1.1 = d) && !x.2.1).Perm ((l.map fun p => p.2.1).filter fun x => decide (x.1.1 = d) && !x.2.1)) := by
        intro hb
        have h5 := ((HPM.out.map fun p => p.2.1).filter fun x => decide (x.1.1 = d) && !x.2.1)
        rw [List.map_cons, List.filter_cons_of_neg (by simp only; rw [hb]; simp)] at h5
        exact (h5.symm.append_left E).trans HP.out
      have take : (decide (ed = d) && !ng) = true → Hid (((E ++ [((ed, en), ng, ei, ek, em, et)]) ++ (rem'.map fun p => p.2.1).filter fun x => decide (x.1.1 = d) && !x.2.1).Perm ((l.map fun p => p.2.1).filter fun x => decide (x.1.1 = d) && !x.2.1)) := by
        intro hb
        have h5 := ((HPM.out.map fun p => p.2.1).filter fun x => decide (x.1.1 = d) && !x.2.1)
        rw [List.map_cons, List.filter_cons_of_pos (by simp only; exact hb)] at h5
        rw [List.append_assoc]
        exact (h5.symm.append_left E).trans HP.out
      have SK := Lib.hid skip
      have TK := Lib.hid take
      clear skip take
      cases hq : (ed == d) with
      | false =>
        have hed : decide (ed = d) = false := by simpa using hq
        have HS := Lib.hid (SK.out (by rw [hed]; rfl))
        clear hed
        go_wp2_with fail
        clear hrun hent
        go_roundg rem'.length
        case measure => omega
        case rel => exact ⟨rem', E, rfl, HI4.out.alloc _, by omega, HS.out⟩
      | true =>
        have hed : decide (ed = d) = true := by simpa using hq
        cases ng with
        | true =>
          have HS := Lib.hid (SK.out (by rw [hed]; rfl))
          clear hed
          go_wp2_with fail
          clear hrun hent
          go_roundg rem'.length
          case measure => omega
          case rel => exact ⟨rem', E, rfl, HI4.out.alloc _, by omega, HS.out⟩
        | false =>
          have HT := Lib.hid (TK.out (by rw [hed]; rfl))
          clear hed
          have HRD : Hid (∀ (V : World) (g : Nat), g = V.heap.size → Rd (V.alloc (.cells #[.int .i64 ed, .string ⟨en.toArray⟩, .bool false, .int .i64 ei, .int .i64 ek, .int .i64 em, .string ⟨et.toArray⟩] 36)) 7 (some ⟨g, 0, none⟩) 1 (cEn ((ed, en), false, ei, ek, em, et))) := fun V g hg => hg ▸ rd_lay V 36 (cEn ((ed, en), false, ei, ek, em, et)) 7 1 rfl
          have hsz := HI4.out.d.sz
          go_wp2_with ((with_reducible refine wpList_isBuiltin .append ?_); refine wpList_append_rd rfl _ _ rfl elemEntries rfl ((HI4.out.alloc _).alloc _).own rfl (HRD.out _ _ ?c4) (cEn_one _) ?c1 ?c2 ?c3 ?_; (case c4 => simp); (case c1 => unfold maxLen; omega); (case c2 => omega); (case c3 => have := HI4.out.d.bl.size; simp; omega); intro v5 w5 hown5 hg5 hb5; have HI5 := Lib.hid (((HI4.out.alloc _).alloc _).push hown5 hg5 hb5); clear hown5 hg5 hb5)
          clear hrun hent
          go_roundg rem'.length
          case measure => omega
          case rel =>
            refine ⟨rem', E ++ [((ed, en), false, ei, ek, em, et)], rfl, ?_, by simp; omega, HT.out⟩
            have := HI5.out
            refine Lib.hid ?_
            rw [List.length_append, cEns_append]
            simpa [cEns] using this

theorem Rd.kept_at {w : World} {A : Option Addr} {n : Nat} {l : List (En × Int)} (h : Rd w 8 A n (cKepts l)) {k : Nat} (hk : k < n) :
    ∃ (ad : Addr) (d : Int) (nm : List UInt8) (ng : Bool) (i kd md : Int) (tg : List UInt8) (u : Int), A = some ad ∧ ad.block < w.heap.size ∧ l[k]? = some (((d, nm), ng, i, kd, md, tg), u) ∧
      w.cell? (ad.add (k * 8)) = some (.int .i64 d) ∧ w.cell? ⟨(ad.add (k * 8)).block, (ad.add (k * 8)).off + 1, none⟩ = some (.string ⟨nm.toArray⟩) ∧
      w.cell? ⟨(ad.add (k * 8)).block, (ad.add (k * 8)).off + 2, none⟩ = some (.bool ng) ∧ w.cell? ⟨(ad.add (k * 8)).block, (ad.add (k * 8)).off + 3, none⟩ = some (.int .i64 i) ∧
      w.cell? ⟨(ad.add (k * 8)).block, (ad.add (k * 8)).off + 4, none⟩ = some (.int .i64 kd) ∧ w.cell? ⟨(ad.add (k * 8)).block, (ad.add (k * 8)).off + 5, none⟩ = some (.int .i64 md) ∧
      w.cell? ⟨(ad.add (k * 8)).block, (ad.add (k * 8)).off + 6, none⟩ = some (.string ⟨tg.toArray⟩) ∧ w.cell? ⟨(ad.add (k * 8)).block, (ad.add (k * 8)).off + 7, none⟩ = some (.int .i64 u) := by
  obtain ⟨ad, e, hb, hc⟩ := h.2 (by omega)
  have hl : k < l.length := by
    have := h.1
    unfold cKepts at this
    rw [flat_len cKept_len] at this
    omega
  obtain ⟨x, hx⟩ : ∃ x, l[k]? = some x := ⟨_, List.getElem?_eq_getElem hl⟩
  have hg := fun i hi => flat_get cKept_len l k x hx i hi
  obtain ⟨⟨⟨d, nm⟩, ng, i, kd, md, tg⟩, u⟩ := x
  have c : ∀ (j : Nat) (v : Value), j < 8 → (cKept (((d, nm), ng, i, kd, md, tg), u))[j]? = some v → w.cell? ((ad.add (k * 8)).add j) = some v := fun j v hj hv => by
    rw [add_assoc_]
    exact hc _ _ ((hg j hj).trans hv)
  have e0 : (ad.add (k * 8)).add 0 = ad.add (k * 8) := addr_zero _
  have ej : ∀ j, 0 < j → (ad.add (k * 8)).add j = ⟨(ad.add (k * 8)).block, (ad.add (k * 8)).off + j, none⟩ := fun j hj => by
    show (if j = 0 then _ else _) = _
    rw [if_neg (by omega)]
  refine ⟨ad, d, nm, ng, i, kd, md, tg, u, e, hb, hx, ?_, ?_, ?_, ?_, ?_, ?_, ?_, ?_⟩
  · have := c 0 _ (by omega) rfl
    rwa [e0] at this
  · have := c 1 _ (by omega) rfl
    rwa [ej 1 (by omega)] at this
  · have := c 2 _ (by omega) rfl
    rwa [ej 2 (by omega)] at this
  · have := c 3 _ (by omega) rfl
    rwa [ej 3 (by omega)] at this
  · have := c 4 _ (by omega) rfl
    rwa [ej 4 (by omega)] at this
  · have := c 5 _ (by omega) rfl
    rwa [ej 5 (by omega)] at this
  · have := c 6 _ (by omega) rfl
    rwa [ej 6 (by omega)] at this
  · have := c 7 _ (by omega) rfl
    rwa [ej 7 (by omega)] at this

/-- A list is gone through, another one grows. -/
structure ListOut (w0 : World) (A : Option Addr) (n cp : Nat) (Z : List (En × Int)) (v : Value) (m : Nat) (xs : List Value) (W : World) : Prop where
  zs : W.ownsRow w0.heap.size 134 8 (.slice A n cp) n (cKepts Z)
  own : W.ownsRow w0.heap.size 36 7 v m xs
  bl : Below w0.heap.size w0 W
  ne : ∀ ad, A = some ad → v.ownBlock ≠ some ad.block
theorem ListOut.alloc {w0 W : World} {A : Option Addr} {n cp : Nat} {Z : List (En × Int)} {v : Value} {m : Nat} {xs : List Value} (H : ListOut w0 A n cp Z v m xs W) (o : Obj) : ListOut w0 A n cp Z v m xs (W.alloc o) :=
  ⟨own_below H.zs ((Below.refl _ _).alloc (Nat.le_refl _) o), own_below H.own ((Below.refl _ _).alloc (Nat.le_refl _) o), H.bl.alloc H.bl.size o, H.ne⟩
theorem ListOut.push {w0 W W' : World} {A : Option Addr} {n cp : Nat} {Z : List (En × Int)} {v v' : Value} {m m' : Nat} {xs ys : List Value} (H : ListOut w0 A n cp Z v m xs W) (hown : W'.ownsRow w0.heap.size 36 7 v' m' ys) (hg : W.grownBy W' v.ownBlock)
    (hb : v'.ownBlock = v.ownBlock ∨ v'.ownBlock = some W.heap.size) : ListOut w0 A n cp Z v' m' ys W' := by
  have hne : ∀ ad, A = some ad → (Value.slice A n cp).ownBlock = some ad.block := fun ad e => by rw [e]; rfl
  refine ⟨H.zs.kept hg ?_, hown, H.bl.grown hg H.bl.size (fun k q => (H.own.lt k q).1), fun ad e => ?_⟩
  · cases hA : A with
    | none => exact .inl rfl
    | some ad => exact .inr fun q => H.ne ad hA q.symm
  · rcases hb with e1 | e1
    · rw [e1]; exact H.ne ad e
    · rw [e1]
      have := (H.zs.lt ad.block (hne ad e)).2
      intro q
      injection q with q
      omega

set_option maxRecDepth 100000 in
set_option maxHeartbeats 4000000 in
theorem dentEntries_any (w : World) (c e h : Nat) (l : List (Key × (En × Int))) (wh : List (Int × Bool)) (clk : Int) (H : CacheAt w c e h l wh clk) (hn : l.length ≤ 1256584717421) :
    Calls Tryz.prog 70 #[.pointer (some ⟨c, 0, none⟩)] w (EntPost w l) := by
  have c0 : w.cell? ⟨c, 0, none⟩ = some (.map (some e)) := by rw [blk_cell H.blk]; rfl
  have h1 := H.c_lt
  have h2 := H.me.lt
  have h3 := H.mw.lt
  have HH := Lib.hid H
  clear H
  go_enter Tryz.func70, Tryz.ntmps70
  go_wp2_with ((with_reducible refine wpList_isRange ?_); refine wpList_range_T rfl (.tmp 12) 129 rfl Tryz.underlying129 rfl HH.out.me ?_; intro w3 hi3 hb3; have HI3 : Hid (DentOn w c e h l wh clk w.heap.size l 134 8 (.slice none 0 0) 0 (cKepts []) w3) := ⟨DentIn.start HH.out hi3 hb3 (Below.refl _ _) h1 h2 h3, World.ownsRow_nil _ _ _ _, by simp [Value.ownBlock]⟩; clear hi3 hb3)
  go_frame
  go_loopg [3] l.length (fun g v wx => ∃ (rem : List (Key × (En × Int))) (Z : List (En × Int)), g = rem.length ∧ Hid (DentOn w c e h l wh clk w.heap.size rem 134 8 v Z.length (cKepts Z) wx) ∧ Z.length + rem.length = l.length ∧
    Hid ((Z ++ rem.map Prod.snd).Perm (l.map Prod.snd)))
  case atStart => exact ⟨l, [], rfl, HI3, by simp, List.Perm.refl _⟩
  case round =>
    obtain ⟨rem, Z, rfl, HI, hle, HP⟩ := hrel
    rcases MapI.next (P := Tryz.prog) HI.out.d.it 0 with ⟨hrem, hrun⟩ | ⟨⟨⟨pd, pn⟩, pv⟩, rem', w4, hperm, hrun, hit, hgr, hent⟩
    · have hfin : Z.Perm (l.map Prod.snd) := by
        have := HP.out
        rw [hrem] at this
        simpa using this
      have hzl : Z.length = l.length := by rw [hrem] at hle; simpa using hle
      have HF := Lib.hid hfin
      clear hrem hfin
      have hlt := HI.out.d.sz
      go_wp2_with (go_at_call 116; refine (sortKept_any _ w.heap.size _ Z HI.out.own (by omega)).mono ?_; rintro r w5 ⟨rfl, E2, hp2, hs2, hown2, hg2⟩; have hl2 := hp2.length_eq; have HS := Lib.hid hs2; have HO2 := Lib.hid hown2; have HP2 := Lib.hid hp2; have HB2 := Lib.hid (HI.out.d.bl.grown hg2 HI.out.d.bl.size (fun k q => (HI.out.own.lt k q).1)); obtain ⟨A3, cp3, rfl⟩ := own_slice hown2; clear hs2 hown2 hp2 hg2)
      clear hrun
      obtain ⟨n, hnl⟩ : ∃ n, l.length = n := ⟨_, rfl⟩
      rw [hzl, hnl] at HO2
      rw [hnl] at hn ⊢
      have hE : E2.length = n := by omega
      have HO3 : Hid (ListOut w A3 n cp3 E2 (.slice none 0 0) 0 (cEns []) w5) := ⟨HO2.out, World.ownsRow_nil _ _ _ _, HB2.out, by simp [Value.ownBlock]⟩
      clear hle hzl hnl hl2
      go_loopw [6, 26] (fun v i wx => ∃ j : Nat, j ≤ n ∧ i = .int .i64 j ∧ Hid (ListOut w A3 n cp3 E2 v j (cEns ((E2.take j).map Prod.fst)) wx)) (fun _ i _ => n - (RowKit.intOf i).toNat)
      case atStart => exact ⟨0, by omega, rfl, HO3⟩
      case round =>
        obtain ⟨j, hj, rfl, HI⟩ := hrel
        by_cases hlt : j < n
        · obtain ⟨ad, ed, en, ng, ei, ek, em, et, us, rfl, hbl, hx, x0, x1, x2, x3, x4, x5, x6, x7⟩ := (Rd.of_own HI.out.zs).kept_at hlt
          have htk : (E2.take (j + 1)).map Prod.fst = (E2.take j).map Prod.fst ++ [((ed, en), ng, ei, ek, em, et)] := by
            rw [List.take_add_one, hx]
            simp
          have HT := Lib.hid htk
          have HRD : Hid (∀ (V : World) (g : Nat), g = V.heap.size → Rd (V.alloc (.cells #[.int .i64 ed, .string ⟨en.toArray⟩, .bool ng, .int .i64 ei, .int .i64 ek, .int .i64 em, .string ⟨et.toArray⟩] 36)) 7 (some ⟨g, 0, none⟩) 1 (cEn ((ed, en), ng, ei, ek, em, et))) := fun V g hg => hg ▸ rd_lay V 36 (cEn ((ed, en), ng, ei, ek, em, et)) 7 1 rfl
          clear hx htk
          go_wp2_with ((with_reducible refine wpList_isBuiltin .append ?_); refine wpList_append_rd rfl _ _ rfl elemEntries rfl ((HI.out.alloc _).alloc _).own rfl (HRD.out _ _ ?c4) (cEn_one _) ?c1 ?c2 ?c3 ?_; (case c4 => simp); (case c1 => unfold maxLen; omega); (case c2 => omega); (case c3 => have := HI.out.bl.size; simp; omega); intro v5 w6 hown5 hg5 hb5; have HI5 := Lib.hid (((HI.out.alloc _).alloc _).push hown5 hg5 hb5); clear hown5 hg5 hb5)
          go_roundw
          case rel =>
            refine ⟨j + 1, by omega, by go_num, ?_⟩
            have := HI5.out
            refine Lib.hid ?_
            rw [HT.out, cEns_append]
            simpa [cEns] using this
          case measure => simp [RowKit.intOf] <;> omega
        · obtain rfl : j = n := by omega
          have HI6 : Hid (ListOut w A3 j cp3 E2 u6 E2.length (cEns (E2.map Prod.fst)) wr) := by
            have h5 := HI.out
            rw [List.take_of_length_le (by omega)] at h5
            refine Lib.hid ?_
            rw [hE]
            exact h5
          go_wp2_with fail
          go_ret
          refine ⟨_, E2, rfl, HP2.out.trans HF.out, ?_, HI6.out.own, HI6.out.bl⟩
          refine HS.out.imp fun {x y} hxy => ?_
          unfold ltOf at hxy
          rw [cI_lt] at hxy
          simpa using hxy
    · have HI4 := Lib.hid (HI.out.next hit hgr)
      have hp2 := hperm.length_eq
      simp only [List.length_cons] at hp2
      have hpp : ((Z ++ [pv]) ++ rem'.map Prod.snd).Perm (l.map Prod.snd) := by
        rw [List.append_assoc]
        exact ((hperm.map Prod.snd).symm.append_left Z).trans HP.out
      have HPP := Lib.hid hpp
      obtain ⟨⟨⟨ed, en⟩, ng, ei, ek, em, et⟩, us⟩ := pv
      simp only [vKey, vKept, txt] at hrun hent
      clear hperm hit hgr hpp
      have HRD : Hid (∀ (V : World) (g : Nat), g = V.heap.size → Rd (V.alloc (.cells #[.int .i64 ed, .string ⟨en.toArray⟩, .bool ng, .int .i64 ei, .int .i64 ek, .int .i64 em, .string ⟨et.toArray⟩, .int .i64 us] 134)) 8 (some ⟨g, 0, none⟩) 1 (cKept (((ed, en), ng, ei, ek, em, et), us))) := fun V g hg => hg ▸ rd_lay V 134 (cKept (((ed, en), ng, ei, ek, em, et), us)) 8 1 rfl
      have hsz := HI4.out.d.sz
      go_wp2_with ((with_reducible refine wpList_isBuiltin .append ?_); refine wpList_append_rd rfl _ _ rfl elemKept rfl ((HI4.out.alloc _).alloc _).own rfl (HRD.out _ _ ?c4) (cKept_one _) ?c1 ?c2 ?c3 ?_; (case c4 => simp); (case c1 => unfold maxLen; omega); (case c2 => omega); (case c3 => have := HI4.out.d.bl.size; simp; omega); intro v5 w5 hown5 hg5 hb5; have HI5 := Lib.hid (((HI4.out.alloc _).alloc _).push hown5 hg5 hb5); clear hown5 hg5 hb5)
      clear hrun hent
      go_roundg rem'.length
      case measure => omega
      case rel =>
        refine ⟨rem', Z ++ [(((ed, en), ng, ei, ek, em, et), us)], rfl, ?_, by simp; omega, HPP.out⟩
        have := HI5.out
        refine Lib.hid ?_
        rw [List.length_append]
        simpa [cKepts] using this
end Go.Proofs.YtoacobcbloljkaaGreatDoor
