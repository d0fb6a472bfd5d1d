/-
  The walks of what a tree tells as lists: list, List, Dump.
-/
import Derived.Test.YtoacobcbloljkaaGreatDoorTreeR
import Derived.Test.YtoacobcbloljkaaGreatDoorIter
namespace Go.Proofs.YtoacobcbloljkaaGreatDoor
open Go.RowKit

/-- Two rows of the call's own: one is read, the other one grows. -/
structure Two (w0 : World) (e1 s1 : Nat) (A : Option Addr) (n c : Nat) (xs : List Value) (e2 s2 : Nat) (v : Value) (m : Nat) (ys : List Value) (W : World) : Prop where
  bl : Below w0.heap.size w0 W
  r1 : W.ownsRow w0.heap.size e1 s1 (.slice A n c) n xs
  r2 : W.ownsRow w0.heap.size e2 s2 v m ys
  ne : ∀ k, (Value.slice A n c).ownBlock = some k → v.ownBlock ≠ some k
section
variable {w0 W W' : World} {e1 s1 : Nat} {A : Option Addr} {n c : Nat} {xs : List Value} {e2 s2 : Nat} {v v' : Value} {m m' : Nat} {ys ys' : List Value}
theorem Two.start (hb : Below w0.heap.size w0 W) (h : W.ownsRow w0.heap.size e1 s1 (.slice A n c) n xs) (e2 s2 : Nat) : Two w0 e1 s1 A n c xs e2 s2 (.slice none 0 0) 0 [] W :=
  ⟨hb, h, World.ownsRow_nil _ _ _ _, by simp [Value.ownBlock]⟩
theorem Two.next (H : Two w0 e1 s1 A n c xs e2 s2 v m ys W) (hb : Below W.heap.size W W') : Two w0 e1 s1 A n c xs e2 s2 v m ys W' :=
  ⟨H.bl.trans (hb.mono H.bl.size), own_below H.r1 hb, own_below H.r2 hb, H.ne⟩
theorem Two.alloc (H : Two w0 e1 s1 A n c xs e2 s2 v m ys W) (o : Obj) : Two w0 e1 s1 A n c xs e2 s2 v m ys (W.alloc o) := H.next ((Below.refl _ _).alloc (Nat.le_refl _) o)
theorem Two.push (H : Two w0 e1 s1 A n c xs e2 s2 v m ys W) (hown : W'.ownsRow w0.heap.size e2 s2 v' m' ys') (hg : W.grownBy W' v.ownBlock) (hb : v'.ownBlock = v.ownBlock ∨ v'.ownBlock = some W.heap.size) : Two w0 e1 s1 A n c xs e2 s2 v' m' ys' W' := by
  refine ⟨H.bl.grown hg H.bl.size (fun k q => (H.r2.lt k q).1), H.r1.kept hg ?_, hown, fun k q => ?_⟩
  · cases hA : (Value.slice A n c).ownBlock with
    | none => exact .inl rfl
    | some k => exact .inr fun q => H.ne k hA q.symm
  · rcases hb with e | e
    · rw [e]; exact H.ne k q
    · rw [e]
      have := (H.r1.lt k q).2
      intro q2
      injection q2 with q2
      omega
end

theorem checkE_len {s : List UInt8} (h : Nm.checkE s = 0) : s.length ≤ 12 := by
  unfold Nm.checkE at h
  split at h
  · cases h
  · omega

theorem Tr.Good.ofDir_len {t : Tr.T} (h : Tr.Good t) (d : Int) : (Tr.ofDir t.L d).length ≤ 47 := by
  have h1 : (Tr.ofDir t.L d).length ≤ t.L.length := List.length_filter_le _ _
  have := h.len
  omega
theorem Tr.sorted_len (L : List Tr.TE) : (Tr.sorted L).length = L.length := by
  unfold Tr.sorted
  rw [List.length_map, List.length_mergeSort]

set_option maxRecDepth 100000 in
set_option maxHeartbeats 2000000 in
theorem treelist_any (w : World) (M : TM) (t : Tr.T) (d : Int) (H : TreeAt w M t) (hd : Tr.isDir t.L d = true) :
    Calls Tryz.prog 90 #[.pointer (some ⟨M.t, 0, none⟩), .int .i64 d] w fun r w' => ∃ v, r = .returned v ∧ w'.ownsRow w.heap.size 36 7 v (Tr.ofDir t.L d).length (cEns (Tr.sorted (Tr.ofDir t.L d))) ∧ Below w.heap.size w w' := by
  obtain ⟨b, hb⟩ := H.ib hd
  have hnd := Tr.ofDir_names H.good.keys d
  obtain ⟨l, hl1, hl2, hl3⟩ := (H.F.mi d b hb).keys hnd (fun s => Tr.Good.names_mem d s)
  have hlen : l.length = (Tr.ofDir t.L d).length := by
    have := hl3.length_eq
    rwa [List.length_map, List.length_map] at this
  have h47 := H.good.ofDir_len d
  have hsz : ∀ p ∈ l, p.1.length ≤ 1048576 := fun p hp => by
    have : p.1 ∈ (Tr.ofDir t.L d).map fun x => x.1.2 := hl3.mem_iff.1 (List.mem_map.2 ⟨p, hp, rfl⟩)
    obtain ⟨x, hx, e⟩ := List.mem_map.1 this
    have := checkE_len (H.good.name x (Tr.mem_ofDir.1 hx).1)
    rw [← e]
    omega
  have hres := Tr.list_now H.good.keys d hl3
  obtain ⟨ns, hns⟩ : ∃ ns, (l.map Prod.fst).mergeSort (fun x y => decide (x ≤ y)) = ns := ⟨_, rfl⟩
  have hsort := sortedS_any (w.alloc (.cells #[.map (some b)] 162)) w.heap.size b l (by simp) (hl1.alloc _) hsz (by omega)
  rw [hns] at hres hsort
  have hnl : ns.length = (Tr.ofDir t.L d).length := by rw [← hns, List.length_mergeSort, List.length_map, hlen]
  rw [hlen] at hsort
  generalize (Tr.ofDir t.L d).length = n at *
  have c1 := H.F.c1
  have lk := H.F.lkM d
  rw [hb] at lk
  have HH := Lib.hid H
  have HS := Lib.hid hsort
  have HR := Lib.hid hres
  have HN := Lib.hid hnl
  clear H hd hb hnd hl1 hl2 hl3 hlen hsz hres hns hsort hnl
  go_enter Tryz.func90, Tryz.ntmps90
  go_wp2_with fail
  refine (keysS_any (some b) w).mono ?_
  rintro r w1 ⟨rfl, rfl⟩
  go_wp2_with fail
  refine HS.out.mono ?_
  rintro r w2 ⟨v2, rfl, hown2, hb2⟩
  obtain ⟨A, c, rfl⟩ := own_slice hown2
  have HT : Hid (Two w 9 1 A n c (txts ns) 36 7 (.slice none 0 0) 0 [] w2) :=
    Two.start (((Below.refl _ w).alloc (Nat.le_refl _) _).trans (hb2.mono (by simp))) (own_base hown2 (by simp)) _ _
  clear hown2 hb2 HS c1 lk
  go_wp2_with fail
  go_loopw [5, 17] (fun v i wx => ∃ j : Nat, j ≤ n ∧ i = .int .i64 j ∧ Hid (Two w 9 1 A n c (txts ns) 36 7 v j (cEns ((ns.take j).map fun s => Tr.nowE t.L (d, s))) wx)) (fun _ i _ => n - (RowKit.intOf i).toNat)
  case atStart => exact ⟨0, by omega, rfl, HT⟩
  case round =>
    obtain ⟨j, hj, rfl, HI⟩ := hrel
    by_cases hlt : j < n
    · obtain ⟨ad, s, rfl, hbl, hx, hc⟩ := (Rd.of_own HI.out.r1).txt_at hlt
      have htk : (ns.take (j + 1)).map (fun s => Tr.nowE t.L (d, s)) = (ns.take j).map (fun s => Tr.nowE t.L (d, s)) ++ [Tr.nowE t.L (d, s)] := by
        rw [List.take_add_one, hx]
        simp
      have hen := treeEntry_any wr M t (d, s) (HH.out.below HI.out.bl)
      rw [show vKey (d, s) = .agg #[.int .i64 d, .string ⟨s.toArray⟩] from rfl] at hen
      generalize Tr.nowE t.L (d, s) = en at hen htk
      obtain ⟨⟨ed, es⟩, eng, ei, ek, em, et⟩ := en
      have HTK := Lib.hid htk
      have HE := Lib.hid hen
      have HRD : Hid (∀ (V : World) (g : Nat), g = V.heap.size → Rd (V.alloc (.cells #[.int .i64 ed, .string ⟨es.toArray⟩, .bool eng, .int .i64 ei, .int .i64 ek, .int .i64 em, .string ⟨et.toArray⟩] 36)) 7 (some ⟨g, 0, none⟩) 1 (cEn ((ed, es), eng, ei, ek, em, et))) := fun V g hg => hg ▸ rd_lay V 36 (cEn ((ed, es), eng, ei, ek, em, et)) 7 1 rfl
      clear hx htk hen
      go_wp2_with fail
      refine HE.out.mono ?_
      rintro r w3 ⟨rfl, hb3⟩
      have HI3 := Lib.hid (HI.out.next hb3)
      clear hb3 HE
      simp only [vEn, txt]
      go_wp2_with ((with_reducible refine wpList_isBuiltin .append ?_); refine wpList_append_rd rfl _ _ rfl elemEntries rfl (HI3.out.alloc _).r2 rfl (HRD.out _ _ ?c4) (cEn_one _) ?c1 ?c2 ?c3 ?_; (case c4 => simp); (case c1 => unfold maxLen; omega); (case c2 => omega); (case c3 => have := HI3.out.bl.size; simp; omega); intro v5 w5 hown5 hg5 hb5; have HI5 := Lib.hid ((HI3.out.alloc _).push hown5 hg5 hb5); clear hown5 hg5 hb5)
      go_roundw
      case rel =>
        refine ⟨j + 1, by omega, by go_num, ?_⟩
        have := HI5.out
        refine Lib.hid ?_
        rw [HTK.out, cEns_append]
        simpa [cEns] using this
      case measure => simp [RowKit.intOf] <;> omega
    · obtain rfl : j = n := by omega
      have HI6 : Hid (wr.ownsRow w.heap.size 36 7 u5 j (cEns (Tr.sorted (Tr.ofDir t.L d)))) := by
        have h5 := HI.out.r2
        rw [List.take_of_length_le (by rw [HN.out]; exact Nat.le_refl _), HR.out] at h5
        exact h5
      go_wp2_with fail
      go_ret
      exact ⟨_, rfl, HI6.out, HI.out.bl⟩

set_option maxRecDepth 100000 in
set_option maxHeartbeats 1000000 in
theorem treeList_any (w : World) (M : TM) (t : Tr.T) (d : Int) (H : TreeAt w M t) :
    Calls Tryz.prog 31 #[.pointer (some ⟨M.t, 0, none⟩), .int .i64 d] w fun r w' => ∃ v, r = .returned (.tuple #[v, .int .i64 (Tr.listR t.L d).2]) ∧ w'.ownsRow w.heap.size 36 7 v (Tr.listR t.L d).1.length (cEns (Tr.listR t.L d).1) ∧ Below w.heap.size w w' := by
  have hdir := treeDir_any w M _ _ _ _ _ d H.F
  have e : dirF (Tr.nodeF t.L) d = Tr.dirE t.L d := rfl
  rw [e] at hdir
  unfold Tr.listR
  by_cases hd : Tr.dirE t.L d = 0
  · have hli := fun V H => treelist_any V M t d H (Tr.dirE_zero.1 hd)
    rw [if_neg (by omega)]
    rw [hd] at hdir
    simp only [Tr.sorted_len]
    generalize Tr.sorted (Tr.ofDir t.L d) = S at hli ⊢
    generalize (Tr.ofDir t.L d).length = n at hli ⊢
    have HH := Lib.hid H
    have HL := Lib.hid hli
    have HD := Lib.hid hdir
    clear H hd e hli hdir
    go_enter Tryz.func31, Tryz.ntmps31
    go_wp2_with fail
    refine HD.out.mono ?_
    rintro r w1 ⟨rfl, hb1⟩
    have HB1 := Lib.hid hb1
    clear hb1
    go_wp2_with fail
    refine (HL.out _ (HH.out.below HB1.out)).mono ?_
    rintro r w2 ⟨v, rfl, hown2, hb2⟩
    have HO := Lib.hid (own_base hown2 HB1.out.size)
    have HB2 := Lib.hid (HB1.out.trans (hb2.mono HB1.out.size))
    clear hown2 hb2
    go_wp2_with fail
    refine bodyPost_ret (results2 rfl _ _ _) rfl ?_
    exact ⟨v, rfl, HO.out, HB2.out⟩
  · rw [if_pos hd]
    have hdb : (Tr.dirE t.L d == 0) = false := by simpa using hd
    generalize Tr.dirE t.L d = de at hdir hdb ⊢
    have HD := Lib.hid hdir
    clear H hd e hdir
    go_enter Tryz.func31, Tryz.ntmps31
    go_wp2_with fail
    refine HD.out.mono ?_
    rintro r w1 ⟨rfl, hb1⟩
    have HB1 := Lib.hid hb1
    clear hb1
    go_wp2_with fail
    refine bodyPost_ret (results2 rfl _ _ _) rfl ?_
    exact ⟨_, rfl, World.ownsRow_nil _ _ _ _, HB1.out⟩

set_option maxRecDepth 100000 in
set_option maxHeartbeats 2000000 in
theorem treeDump_any (w : World) (M : TM) (t : Tr.T) (H : TreeAt w M t) (hx : t.next < 4611686018427387904) :
    Calls Tryz.prog 44 #[.pointer (some ⟨M.t, 0, none⟩)] w fun r w' => ∃ v, r = .returned v ∧ w'.ownsRow w.heap.size 36 7 v t.L.length (cEns (Tr.dumpR t.L)) ∧ Below w.heap.size w w' := by
  have hnd := H.good.dirIds_nodup
  obtain ⟨l, hl1, hl2, hl3⟩ := H.F.mm.keys hnd (fun a => by rw [H.dirs a]; exact Tr.Good.dirIds_mem a)
  have hlen : l.length = (Tr.dirIds t).length := by
    have := hl3.length_eq
    rwa [List.length_map] at this
  have h48 := H.good.dirIds_len
  have hsz : ∀ p ∈ l, -9223372036854775808 ≤ p.1 ∧ p.1 ≤ 9223372036854775807 := fun p hp => by
    have := H.good.dirIds_in (hl3.mem_iff.1 (List.mem_map.2 ⟨p, hp, rfl⟩))
    omega
  have hdl : ∀ x ∈ t.L, x.1.1 ∈ l.map Prod.fst := fun x hx => hl3.mem_iff.2 ((Tr.Good.dirIds_mem _).2 (H.good.dirs x hx))
  have hres := Tr.dump_flat H.good.keys (hl3.nodup_iff.2 hnd) hdl
  obtain ⟨ds, hds⟩ : ∃ ds, (l.map Prod.fst).mergeSort (fun x y => decide (x ≤ y)) = ds := ⟨_, rfl⟩
  have hdirs : ∀ d ∈ ds, Tr.isDir t.L d = true := fun d hd => by
    rw [← hds] at hd
    exact (Tr.Good.dirIds_mem d).1 (hl3.mem_iff.1 ((List.mergeSort_perm _ _).mem_iff.1 hd))
  have hsort := sortedI_any (w.alloc (.cells #[.map (some M.mb)] 149)) w.heap.size M.mb l (by simp) (hl1.alloc _) hsz (by omega)
  rw [hds] at hres hsort
  have hnl : ds.length = l.length := by rw [← hds, List.length_mergeSort, List.length_map]
  have hle : ∀ j, ((ds.take j).flatMap fun d => Tr.sorted (Tr.ofDir t.L d)).length ≤ 47 := fun j => by
    have h1 : ((ds.take j).flatMap fun d => Tr.sorted (Tr.ofDir t.L d)).length ≤ (ds.flatMap fun d => Tr.sorted (Tr.ofDir t.L d)).length := by
      have e : ds.flatMap (fun d => Tr.sorted (Tr.ofDir t.L d)) = (ds.take j).flatMap (fun d => Tr.sorted (Tr.ofDir t.L d)) ++ (ds.drop j).flatMap (fun d => Tr.sorted (Tr.ofDir t.L d)) := by rw [← List.flatMap_append, List.take_append_drop]
      rw [e, List.length_append]
      omega
    rw [hres, Tr.sorted_len] at h1
    have := H.good.len
    omega
  have hres' : (ds.flatMap fun d => Tr.sorted (Tr.ofDir t.L d)).length = t.L.length := by rw [hres, Tr.sorted_len]
  have hn48 : l.length ≤ 48 := by omega
  generalize l.length = n at *
  have c1 := H.F.c1
  have HH := Lib.hid H
  have HS := Lib.hid hsort
  have HR := Lib.hid hres
  have HR2 := Lib.hid hres'
  have HN := Lib.hid hnl
  have HD := Lib.hid hdirs
  have HLE := Lib.hid hle
  clear H hx hnd hl1 hl2 hl3 hlen h48 hsz hdl hres hds hdirs hsort hnl hle hres'
  go_enter Tryz.func44, Tryz.ntmps44
  go_wp2_with fail
  refine (keysI_any (some M.mb) w).mono ?_
  rintro r w1 ⟨rfl, rfl⟩
  go_wp2_with fail
  refine HS.out.mono ?_
  rintro r w2 ⟨v2, rfl, hown2, hb2⟩
  obtain ⟨A, c, rfl⟩ := own_slice hown2
  have HT : Hid (Two w 3 1 A n c (ints ds) 36 7 (.slice none 0 0) 0 [] w2) :=
    Two.start (((Below.refl _ w).alloc (Nat.le_refl _) _).trans (hb2.mono (by simp))) (own_base hown2 (by simp)) _ _
  clear hown2 hb2 HS c1
  go_wp2_with fail
  go_loopw [3, 13] (fun v i wx => ∃ j : Nat, j ≤ n ∧ i = .int .i64 j ∧ Hid (Two w 3 1 A n c (ints ds) 36 7 v ((ds.take j).flatMap fun d => Tr.sorted (Tr.ofDir t.L d)).length (cEns ((ds.take j).flatMap fun d => Tr.sorted (Tr.ofDir t.L d))) wx)) (fun _ i _ => n - (RowKit.intOf i).toNat)
  case atStart => exact ⟨0, by omega, rfl, HT⟩
  case round =>
    obtain ⟨j, hj, rfl, HI⟩ := hrel
    by_cases hlt : j < n
    · obtain ⟨ad, u, rfl, hbl, hx, hc⟩ := (Rd.of_own HI.out.r1).at1 hlt
      obtain ⟨d, hd, rfl⟩ : ∃ d, ds[j]? = some d ∧ u = .int .i64 d := by
        unfold ints at hx
        rw [List.getElem?_map] at hx
        cases hq : ds[j]? with
        | none => rw [hq] at hx; cases hx
        | some d =>
          rw [hq] at hx
          exact ⟨d, rfl, by injection hx with hx; exact hx.symm⟩
      have htk : (ds.take (j + 1)).flatMap (fun d => Tr.sorted (Tr.ofDir t.L d)) = (ds.take j).flatMap (fun d => Tr.sorted (Tr.ofDir t.L d)) ++ Tr.sorted (Tr.ofDir t.L d) := by
        rw [List.take_add_one, hd, List.flatMap_append]
        simp
      have hli := treelist_any wr M t d (HH.out.below HI.out.bl) (HD.out d (List.mem_of_getElem? hd))
      have hs := HLE.out (j + 1)
      rw [htk, List.length_append, Tr.sorted_len] at hs
      have HTK := Lib.hid htk
      have HE := Lib.hid hli
      clear hx htk hli hd
      obtain ⟨P, hP⟩ : ∃ P, (ds.take j).flatMap (fun d => Tr.sorted (Tr.ofDir t.L d)) = P := ⟨_, rfl⟩
      rw [hP] at HI HTK hs
      obtain ⟨Q, hQ⟩ : ∃ Q, Tr.sorted (Tr.ofDir t.L d) = Q := ⟨_, rfl⟩
      have hql : (Tr.ofDir t.L d).length = Q.length := by rw [← hQ, Tr.sorted_len]
      rw [hQ] at HE HTK
      rw [hql] at HE hs
      clear hP hQ hql
      go_wp2_with fail
      refine HE.out.mono ?_
      rintro r w3 ⟨v3, rfl, hown3, hb3⟩
      obtain ⟨A3, c3, rfl⟩ := own_slice hown3
      have HI3 := Lib.hid (HI.out.next hb3)
      have HRD := Lib.hid (Rd.of_own hown3)
      clear hb3 HE hown3
      go_wp2_with ((with_reducible refine wpList_isBuiltin .append ?_); refine wpList_append_rd rfl _ _ rfl elemEntries rfl HI3.out.r2 rfl HRD.out (cEns_one _) ?c1 ?c2 ?c3 ?_; (case c1 => unfold maxLen; omega); (case c2 => omega); (case c3 => have := HI3.out.bl.size; omega); intro v5 w5 hown5 hg5 hb5; have HI5 := Lib.hid (HI3.out.push hown5 hg5 hb5); clear hown5 hg5 hb5)
      go_roundw
      case rel =>
        refine ⟨j + 1, by omega, by go_num, ?_⟩
        have := HI5.out
        refine Lib.hid ?_
        rw [HTK.out, cEns_append, List.length_append]
        exact this
      case measure => simp [RowKit.intOf] <;> omega
    · obtain rfl : j = n := by omega
      have HI6 : Hid (wr.ownsRow w.heap.size 36 7 u3 t.L.length (cEns (Tr.dumpR t.L))) := by
        have h5 := HI.out.r2
        rw [List.take_of_length_le (by rw [HN.out]; exact Nat.le_refl _), HR2.out, HR.out] at h5
        exact h5
      go_wp2_with fail
      go_ret
      exact ⟨_, rfl, HI6.out, HI.out.bl⟩
end Go.Proofs.YtoacobcbloljkaaGreatDoor
