/-
  Several texts in one: TreeMut, TreeRead, TreeRead2, TreeIn.
-/
import Derived.Test.YtoacobcbloljkaaGreatDoorTreeMem
import Derived.Test.YtoacobcbloljkaaGreatDoorNames
/-! # TreeMut: The walks of the tree's small changes: New, add, put, drop, remove. -/
namespace Go.Proofs.YtoacobcbloljkaaGreatDoor
open Go.RowKit

theorem zero_names (w : World) : (zeroValue 162).run Tryz.prog w = .ok (.map none) w := by kernel_rfl
theorem zero_node (w : World) : (zeroValue 34).run Tryz.prog w = .ok (vNd Tr.noN) w := by kernel_rfl
theorem zero_key (w : World) : (zeroValue 32).run Tryz.prog w = .ok (vKey (0, [])) w := by kernel_rfl
theorem zero_id (w : World) : (zeroValue 3).run Tryz.prog w = .ok (vI 0) w := by kernel_rfl

theorem keyK_name : KeyK Tryz.prog 9 txt := keyK_txt Tryz.underlying9

section
variable {w : World} {M : TM} {fN : Int → Option Nd} {fM : Int → List UInt8 → Option Int} {fP : Int → Option Key} {v n : Int}
theorem TreeF.c0 (H : TreeF w M fN fM fP v n) : w.cell? ⟨M.t, 0, none⟩ = some (.map (some M.nb)) := H.blk.cell 0
theorem TreeF.c1 (H : TreeF w M fN fM fP v n) : w.cell? ⟨M.t, 1, none⟩ = some (.map (some M.mb)) := H.blk.cell 1
theorem TreeF.c2 (H : TreeF w M fN fM fP v n) : w.cell? ⟨M.t, 2, none⟩ = some (.map (some M.pb)) := H.blk.cell 2
theorem TreeF.c3 (H : TreeF w M fN fM fP v n) : w.cell? ⟨M.t, 3, none⟩ = some (.int .i64 v) := H.blk.cell 3
theorem TreeF.c4 (H : TreeF w M fN fM fP v n) : w.cell? ⟨M.t, 4, none⟩ = some (.int .i64 n) := H.blk.cell 4
theorem TreeF.lkN (H : TreeF w M fN fM fP v n) (d : Int) (c : Bool) : (Instr.lookup 148 (.map (some M.nb)) (.int .i64 d) c).run Tryz.prog w = .ok (if c then .tuple #[((fN d).map vNd).getD (vNd Tr.noN), .bool (fN d).isSome] else ((fN d).map vNd).getD (vNd Tr.noN)) w :=
  H.mn.lookup keyK_num Tryz.underlying148 (zero_node w) d c
theorem TreeF.lkP (H : TreeF w M fN fM fP v n) (d : Int) : (Instr.lookup 150 (.map (some M.pb)) (.int .i64 d) false).run Tryz.prog w = .ok (((fP d).map vKey).getD (vKey (0, []))) w := by
  have := H.mp.lookup keyK_num Tryz.underlying150 (zero_key w) d false
  rw [show vI d = .int .i64 d from rfl] at this
  exact this
theorem TreeF.lkM (H : TreeF w M fN fM fP v n) (d : Int) : (Instr.lookup 149 (.map (some M.mb)) (.int .i64 d) false).run Tryz.prog w = .ok (.map (M.ib d)) w := by
  have := H.mm.lookup keyK_num Tryz.underlying149 (zero_names w) d false
  rw [show vI d = .int .i64 d from rfl] at this
  rw [this]
  cases M.ib d <;> rfl
theorem TreeF.lkI (H : TreeF w M fN fM fP v n) {d : Int} {b : Nat} (h : M.ib d = some b) (s : List UInt8) : (Instr.lookup 162 (.map (some b)) (.string ⟨s.toArray⟩) true).run Tryz.prog w = .ok (.tuple #[.int .i64 ((fM d s).getD 0), .bool (fM d s).isSome]) w := by
  have := (H.mi d b h).lookup keyK_name Tryz.underlying162 (zero_id w) s true
  rw [show txt s = .string ⟨s.toArray⟩ from rfl] at this
  rw [this]
  cases fM d s <;> rfl
end

set_option maxRecDepth 100000 in
set_option maxHeartbeats 1000000 in
theorem treePut_any (w : World) (M : TM) (fN : Int → Option Nd) (fM : Int → List UInt8 → Option Int) (fP : Int → Option Key) (v n : Int) (k : Key) (id : Int) (H : TreeF w M fN fM fP v n) (b : Nat) (hb : M.ib k.1 = some b) :
    Calls Tryz.prog 105 #[.pointer (some ⟨M.t, 0, none⟩), vKey k, .int .i64 id] w fun r w' => r = .returned (.tuple #[]) ∧ TreeF w' M fN (upd fM k.1 (upd (fM k.1) k.2 (some id))) (upd fP id (some k)) v n ∧ Kp (fun j => ¬ M.own j) w w' := by
  obtain ⟨d, s⟩ := k
  have hA := At.new w 32 [.int .i64 d, .string ⟨s.toArray⟩]
  have H1 := (H.alloc (.cells #[.int .i64 d, .string ⟨s.toArray⟩] 32)).drew
  obtain ⟨w2, hrun2, hm2, ht2⟩ := (H1.mi d b hb).update keyK_name Tryz.underlying162 s id
  have hA2 : At w2 w.heap.size 32 [.int .i64 d, .string ⟨s.toArray⟩] := At.grown (At.drew hA) ht2.grown (fun q => by
    have := H.own_lt (.inr (.inr (.inr (.inr ⟨d, hb⟩))))
    injection q with q
    omega)
  have H2 := H1.turnI hb ht2 hm2
  obtain ⟨w3, hrun3, hm3, ht3⟩ := H2.drew.mp.update keyK_num Tryz.underlying150 id (d, s)
  have H3 := H2.drew.turnP ht3 hm3
  have hk : Kp (fun j => ¬ M.own j) w w3 := mapTurned_kp (mapTurned_kp (((Kp.refl _ w).alloc _).drew) ht2 (fun _ q => q (.inr (.inr (.inr (.inr ⟨d, hb⟩)))))).drew ht3 (fun _ q => q (.inr (.inr (.inr (.inl rfl)))))
  have c1 := (H.alloc (.cells #[.int .i64 d, .string ⟨s.toArray⟩] 32)).c1
  have lk := H1.lkM d
  rw [hb] at lk
  have c2 := H2.c2
  have k0 := hA2.cell 0
  have k1 := hA2.cell 1
  simp only [txt, vI, vKey] at hrun2 hrun3 k0 k1
  have HH := Lib.hid H3
  have HK := Lib.hid hk
  have HL := Lib.hid (H.own_lt (.inl rfl))
  clear H hb hA H1 hm2 ht2 hA2 H2 hm3 ht3 H3 hk
  unfold vKey
  simp only [txt]
  go_enter Tryz.func105, Tryz.ntmps105
  go_wp2_with fail
  go_region
  all_goals
    go_wp2_with fail
    go_region
    all_goals
      go_wp2_with fail
      go_end0
      exact ⟨rfl, HH.out, HK.out⟩

set_option maxRecDepth 100000 in
set_option maxHeartbeats 1000000 in
/-- A file or a link comes in, without a name. -/
theorem treeAdd_other (w : World) (M : TM) (fN : Int → Option Nd) (fM : Int → List UInt8 → Option Int) (fP : Int → Option Key) (v n : Int) (x : Nd) (H : TreeF w M fN fM fP v n) (hx : x.2.1 ≠ 1) :
    Calls Tryz.prog 104 #[.pointer (some ⟨M.t, 0, none⟩), vNd x] w fun r w' => r = .returned (.tuple #[]) ∧ TreeF w' M (upd fN x.1 (some x)) fM fP v n ∧ Kp (fun j => ¬ M.own j) w w' := by
  obtain ⟨i, kd, md, tg⟩ := x
  have hA := At.new w 34 [.int .i64 i, .int .i64 kd, .int .i64 md, .string ⟨tg.toArray⟩]
  have H1 := (H.alloc (.cells #[.int .i64 i, .int .i64 kd, .int .i64 md, .string ⟨tg.toArray⟩] 34)).drew
  obtain ⟨w2, hrun2, hm2, ht2⟩ := H1.mn.update keyK_num Tryz.underlying148 i (i, kd, md, tg)
  have hA2 : At w2 w.heap.size 34 [.int .i64 i, .int .i64 kd, .int .i64 md, .string ⟨tg.toArray⟩] := At.grown (At.drew hA) ht2.grown (fun q => by
    have := H.mn.lt
    injection q with q
    omega)
  have H2 := H1.turnN ht2 hm2
  have hk : Kp (fun j => ¬ M.own j) w w2 := mapTurned_kp ((Kp.refl _ w).alloc _).drew ht2 (fun _ q => q (.inr (.inl rfl)))
  have c0 := (H.alloc (.cells #[.int .i64 i, .int .i64 kd, .int .i64 md, .string ⟨tg.toArray⟩] 34)).c0
  have k1 := hA2.cell 1
  have hkd : (kd == 1) = false := by simpa using hx
  simp only [txt, vI, vNd] at hrun2 k1
  have HH := Lib.hid H2
  have HK := Lib.hid hk
  have HL := Lib.hid (H.own_lt (.inl rfl))
  clear H hA H1 hm2 ht2 hA2 H2 hk hx
  unfold vNd
  simp only [txt]
  go_enter Tryz.func104, Tryz.ntmps104
  go_wp2_with fail
  go_region
  all_goals
    go_wp2_with fail
    go_end0
    exact ⟨rfl, HH.out, HK.out⟩

set_option maxRecDepth 100000 in
set_option maxHeartbeats 1000000 in
/-- A directory comes in, without a name. -/
theorem treeAdd_dir (w : World) (M : TM) (fN : Int → Option Nd) (fM : Int → List UInt8 → Option Int) (fP : Int → Option Key) (v n : Int) (x : Nd) (H : TreeF w M fN fM fP v n) (hx : x.2.1 = 1) :
    Calls Tryz.prog 104 #[.pointer (some ⟨M.t, 0, none⟩), vNd x] w fun r w' => r = .returned (.tuple #[]) ∧ ∃ b, w.heap.size ≤ b ∧ TreeF w' { M with ib := upd M.ib x.1 (some b) } (upd fN x.1 (some x)) (upd fM x.1 fun _ => none) fP v n ∧ Kp (fun j => ¬ M.own j) w w' := by
  obtain ⟨i, kd, md, tg⟩ := x
  simp only at hx
  subst hx
  have hA := At.new w 34 [.int .i64 i, .int .i64 1, .int .i64 md, .string ⟨tg.toArray⟩]
  have H1 := (H.alloc (.cells #[.int .i64 i, .int .i64 1, .int .i64 md, .string ⟨tg.toArray⟩] 34)).drew
  obtain ⟨w2, hrun2, hm2, ht2⟩ := H1.mn.update keyK_num Tryz.underlying148 i (i, 1, md, tg)
  have hA2 : At w2 w.heap.size 34 [.int .i64 i, .int .i64 1, .int .i64 md, .string ⟨tg.toArray⟩] := At.grown (At.drew hA) ht2.grown (fun q => by
    have := H.mn.lt
    injection q with q
    omega)
  have H2 := H1.turnN ht2 hm2
  have hk2 : Kp (fun j => ¬ M.own j) w w2 := mapTurned_kp ((Kp.refl _ w).alloc _).drew ht2 (fun _ q => q (.inr (.inl rfl)))
  have H2a := (H2.alloc (.map #[] 0)).drew
  have hmd : MapF txt vI (w2.alloc (.map #[] 0)).drew w2.heap.size (fun _ : List UInt8 => none) := MapF.drew (MapF.made txt vI w2)
  obtain ⟨w3, hrun3, hm3, ht3⟩ := H2a.mm.update keyK_num Tryz.underlying149 i w2.heap.size
  have hnew : ¬ M.own w2.heap.size := fun q => by have := H2.own_lt q; omega
  have H3 := H2a.turnM ht3 hm3 hmd hnew
  have hk : Kp (fun j => ¬ M.own j) w w3 := mapTurned_kp (hk2.alloc _).drew ht3 (fun _ q => q (.inr (.inr (.inl rfl))))
  have c0 := (H.alloc (.cells #[.int .i64 i, .int .i64 1, .int .i64 md, .string ⟨tg.toArray⟩] 34)).c0
  have c1 := H2.c1
  have c1a := H2a.c1
  have k0 := hA2.cell 0
  have k1 := hA2.cell 1
  have k0a : ∀ o, (w2.alloc o).cell? ⟨w.heap.size, 0, none⟩ = some (.int .i64 i) := fun o => cell_alloc_old k0 o
  have c1b : ∀ o, (w2.alloc o).cell? ⟨M.t, 1, none⟩ = some (.map (some M.mb)) := fun o => cell_alloc_old c1 o
  have hl2 : w.heap.size ≤ w2.heap.size := hk2.size
  have HLT := Lib.hid (hA2.lt)
  simp only [txt, vI, vNd, vM] at hrun2 hrun3 k0 k1
  have hmm := @run_makeMap Tryz.prog
  have HH := Lib.hid H3
  have HK := Lib.hid hk
  have HL := Lib.hid (H.own_lt (.inl rfl))
  clear H hA H1 hm2 ht2 hA2 H2 hk hk2 H2a hmd hm3 ht3 hnew H3
  unfold vNd
  simp only [txt]
  go_enter Tryz.func104, Tryz.ntmps104
  go_wp2_with fail
  go_region
  all_goals
    go_wp2_with fail
    go_region
    all_goals
      go_wp2_with fail
      go_end0
      exact ⟨rfl, _, hl2, HH.out, HK.out⟩

set_option maxRecDepth 100000 in
set_option maxHeartbeats 1000000 in
/-- A node's name goes. -/
theorem treeDrop_any (w : World) (M : TM) (fN : Int → Option Nd) (fM : Int → List UInt8 → Option Int) (fP : Int → Option Key) (v n : Int) (id : Int) (k : Key) (H : TreeF w M fN fM fP v n) (hp : fP id = some k) (b : Nat) (hb : M.ib k.1 = some b) :
    Calls Tryz.prog 176 #[.pointer (some ⟨M.t, 0, none⟩), .int .i64 id] w fun r w' => r = .returned (.tuple #[]) ∧ TreeF w' M fN (upd fM k.1 (upd (fM k.1) k.2 none)) (upd fP id none) v n ∧ Kp (fun j => ¬ M.own j) w w' := by
  obtain ⟨d, s⟩ := k
  have lp := H.lkP id
  rw [hp] at lp
  simp only [Option.map_some, Option.getD_some, vKey, txt] at lp
  have lpa : ∀ o, (Instr.lookup 150 (.map (some M.pb)) (.int .i64 id) false).run Tryz.prog (w.alloc o) = .ok (.agg #[.int .i64 d, .string ⟨s.toArray⟩]) (w.alloc o) := fun o => by
    have := (H.alloc o).lkP id
    rw [hp] at this
    simpa only [Option.map_some, Option.getD_some, vKey, txt] using this
  have c2w := H.c2
  have c2a : ∀ o, (w.alloc o).cell? ⟨M.t, 2, none⟩ = some (.map (some M.pb)) := fun o => (H.alloc o).c2
  have c1a : ∀ o, (w.alloc o).cell? ⟨M.t, 1, none⟩ = some (.map (some M.mb)) := fun o => (H.alloc o).c1
  have H1 := (H.alloc (.cells #[.int .i64 d, .string ⟨s.toArray⟩] 32)).drew
  have lk := H1.lkM d
  rw [hb] at lk
  obtain ⟨w2, hrun2, hm2, ht2⟩ := (H1.mi d b hb).delete (ty := 0) keyK_name Tryz.underlying162 s
  have H2 := H1.turnI hb ht2 hm2
  obtain ⟨w3, hrun3, hm3, ht3⟩ := H2.mp.delete (ty := 0) keyK_num Tryz.underlying150 id
  have H3 := H2.turnP ht3 hm3
  have hk : Kp (fun j => ¬ M.own j) w w3 := mapTurned_kp (mapTurned_kp (((Kp.refl _ w).alloc _).drew) ht2 (fun _ q => q (.inr (.inr (.inr (.inr ⟨d, hb⟩)))))) ht3 (fun _ q => q (.inr (.inr (.inr (.inl rfl)))))
  have c2 := H2.c2
  simp only [txt, vI] at hrun2 hrun3
  have HH := Lib.hid H3
  have HK := Lib.hid hk
  have HL := Lib.hid (H.own_lt (.inl rfl))
  clear H hb hp H1 hm2 ht2 H2 hm3 ht3 H3 hk
  go_enter Tryz.func176, Tryz.ntmps176
  go_wp2_with fail
  go_region
  all_goals
    go_wp2_with fail
    go_end0
    exact ⟨rfl, HH.out, HK.out⟩

set_option maxRecDepth 100000 in
set_option maxHeartbeats 1000000 in
/-- A node goes, with its name (and its map of names). -/
theorem treeRemove_any (w : World) (M : TM) (fN : Int → Option Nd) (fM : Int → List UInt8 → Option Int) (fP : Int → Option Key) (v n : Int) (id : Int) (k : Key) (H : TreeF w M fN fM fP v n) (hp : fP id = some k) (b : Nat) (hb : M.ib k.1 = some b) :
    Calls Tryz.prog 173 #[.pointer (some ⟨M.t, 0, none⟩), .int .i64 id] w fun r w' => r = .returned (.tuple #[]) ∧
      TreeF w' { M with ib := upd M.ib id none } (upd fN id none) (upd (upd fM k.1 (upd (fM k.1) k.2 none)) id fun _ => none) (upd fP id none) v n ∧ Kp (fun j => ¬ M.own j) w w' := by
  have hdrop := treeDrop_any w M fN fM fP v n id k H hp b hb
  have hlt := H.own_lt (.inl rfl)
  clear H
  go_enter Tryz.func173, Tryz.ntmps173
  go_wp2_with fail
  refine hdrop.mono ?_
  rintro r w1 ⟨rfl, H1, hk1⟩
  obtain ⟨w2, hrun2, hm2, ht2⟩ := H1.mn.delete (ty := 0) keyK_num Tryz.underlying148 id
  have H2 := H1.turnN ht2 hm2
  obtain ⟨w3, hrun3, hm3, ht3⟩ := H2.mm.delete (ty := 0) keyK_num Tryz.underlying149 id
  have H3 := H2.turnD ht3 hm3
  have hk : Kp (fun j => ¬ M.own j) w w3 := mapTurned_kp (mapTurned_kp hk1 ht2 (fun _ q => q (.inr (.inl rfl)))) ht3 (fun _ q => q (.inr (.inr (.inl rfl))))
  have c0 := H1.c0
  have c1 := H2.c1
  simp only [vI] at hrun2 hrun3
  have HH := Lib.hid H3
  have HK := Lib.hid hk
  have HL := Lib.hid (H1.own_lt (.inl rfl))
  clear hdrop H1 hm2 ht2 H2 hm3 ht3 H3 hk hk1
  go_wp2_with fail
  go_end0
  exact ⟨rfl, HH.out, HK.out⟩

set_option maxRecDepth 100000 in
set_option maxHeartbeats 1000000 in
/-- A new tree: the root alone. -/
theorem treeNew_any (w : World) : Calls Tryz.prog 81 #[] w fun r w' => ∃ M : TM, r = .returned (.pointer (some ⟨M.t, 0, none⟩)) ∧ TreeAt w' M Tr.t0 ∧ (∀ k, M.own k → w.heap.size ≤ k) ∧ Below w.heap.size w w' := by
  have hmm := @run_makeMap Tryz.prog
  go_enter Tryz.func81, Tryz.ntmps81
  go_wp2_with fail
  have H : TreeF ((((w.alloc (.map #[] 0)).alloc (.map #[] 0)).alloc (.map #[] 0)).alloc (.cells #[.map (some w.heap.size), .map (some (w.heap.size + 1)), .map (some (w.heap.size + 1 + 1)), .int .i64 0, .int .i64 2] 152)) ⟨w.heap.size + 1 + 1 + 1, w.heap.size, w.heap.size + 1, w.heap.size + 1 + 1, fun _ => none⟩ (fun _ => none) (fun _ _ => none) (fun _ => none) 0 2 := by
    refine ⟨?_, ?_, ?_, ?_, (fun d b h => by cases h), ⟨by simp only; omega, by simp only; omega, by simp only; omega⟩, (fun d b h => by cases h), (fun d e b h => by cases h), fun _ _ _ => rfl⟩
    · have := At.new (((w.alloc (.map #[] 0)).alloc (.map #[] 0)).alloc (.map #[] 0)) 152 [.map (some w.heap.size), .map (some (w.heap.size + 1)), .map (some (w.heap.size + 1 + 1)), .int .i64 0, .int .i64 2]
      simpa using this
    · exact (((MapF.made vI vNd w).alloc _).alloc _).alloc _
    · have := ((MapF.made vI vM (w.alloc (.map #[] 0))).alloc (.map #[] 0)).alloc (.cells #[.map (some w.heap.size), .map (some (w.heap.size + 1)), .map (some (w.heap.size + 1 + 1)), .int .i64 0, .int .i64 2] 152)
      simpa using this
    · have := (MapF.made vI vKey ((w.alloc (.map #[] 0)).alloc (.map #[] 0))).alloc (.cells #[.map (some w.heap.size), .map (some (w.heap.size + 1)), .map (some (w.heap.size + 1 + 1)), .int .i64 0, .int .i64 2] 152)
      simpa using this
  have hsz : ((((w.alloc (.map #[] 0)).alloc (.map #[] 0)).alloc (.map #[] 0)).alloc (.cells #[.map (some w.heap.size), .map (some (w.heap.size + 1)), .map (some (w.heap.size + 1 + 1)), .int .i64 0, .int .i64 2] 152)).heap.size = w.heap.size + 4 := by simp
  have hb0 : Below w.heap.size w ((((w.alloc (.map #[] 0)).alloc (.map #[] 0)).alloc (.map #[] 0)).alloc (.cells #[.map (some w.heap.size), .map (some (w.heap.size + 1)), .map (some (w.heap.size + 1 + 1)), .int .i64 0, .int .i64 2] 152)) := ((((Below.refl _ w).alloc (Nat.le_refl _) _).alloc (by simp) _).alloc (by simp; omega) _).alloc (by simp; omega) _
  obtain ⟨w0, hw0⟩ : ∃ w0, ((((w.alloc (.map #[] 0)).alloc (.map #[] 0)).alloc (.map #[] 0)).alloc (.cells #[.map (some w.heap.size), .map (some (w.heap.size + 1)), .map (some (w.heap.size + 1 + 1)), .int .i64 0, .int .i64 2] 152)) = w0 := ⟨_, rfl⟩
  rw [hw0] at H hsz hb0 ⊢
  clear hw0
  refine (treeAdd_dir _ _ _ _ _ _ _ Tr.rootN H rfl).mono ?_
  rintro r w1 ⟨rfl, b, hb, H1, hk1⟩
  rw [hsz] at hb
  have hbel : Below w.heap.size w w1 := by
    refine hb0.trans ?_
    refine hk1.to_below (by rw [hsz]; omega) fun k hk q => ?_
    rcases q with q | q | q | q | ⟨d, q⟩
    · simp only at q; omega
    · simp only at q; omega
    · simp only at q; omega
    · simp only at q; omega
    · cases q
  have HH : TreeAt w1 { t := w.heap.size + 1 + 1 + 1, nb := w.heap.size, mb := w.heap.size + 1, pb := w.heap.size + 1 + 1, ib := upd (fun _ => none) Tr.rootN.1 (some b) } Tr.t0 := by
    refine ⟨H1.to ?_ ?_ ?_, fun d => ?_, Tr.good_t0⟩
    · funext i
      unfold upd Tr.nodeF Tr.t0 Tr.rootN
      simp only
      split <;> rfl
    · funext d s
      unfold upd Tr.nameF Tr.t0
      simp only
      split <;> rfl
    · funext i
      rfl
    · unfold upd Tr.isDir Tr.nodeF Tr.t0 Tr.rootN
      simp only
      split <;> rfl
  have HT := Lib.hid HH
  have HB := Lib.hid hbel
  clear H H1 hk1 HH hbel
  go_wp2_with fail
  go_ret
  refine ⟨_, rfl, HT.out, ?_, HB.out⟩
  rintro k (q | q | q | q | ⟨d, q⟩)
  · simp only at q; omega
  · simp only at q; omega
  · simp only at q; omega
  · simp only at q; omega
  · unfold upd at q
    simp only at q
    split at q
    · injection q with q; omega
    · cases q

/-- A node comes in, without a name; no name is in it yet. -/
theorem treeAdd_any (w : World) (M : TM) (fN : Int → Option Nd) (fM : Int → List UInt8 → Option Int) (fP : Int → Option Key) (v n : Int) (x : Nd) (H : TreeF w M fN fM fP v n) (hf : ∀ s, fM x.1 s = none) :
    Calls Tryz.prog 104 #[.pointer (some ⟨M.t, 0, none⟩), vNd x] w fun r w' => r = .returned (.tuple #[]) ∧ ∃ M' : TM, M'.t = M.t ∧ (∀ d, d ≠ x.1 → M'.ib d = M.ib d) ∧ (M'.ib x.1).isSome = (decide (x.2.1 = 1) || (M.ib x.1).isSome) ∧
      (∀ k, M'.own k → M.own k ∨ w.heap.size ≤ k) ∧ TreeF w' M' (upd fN x.1 (some x)) fM fP v n ∧ Kp (fun j => ¬ M.own j) w w' := by
  by_cases hx : x.2.1 = 1
  · refine (treeAdd_dir w M fN fM fP v n x H hx).mono ?_
    rintro r w' ⟨rfl, b, hb, h1, h2⟩
    refine ⟨rfl, { M with ib := upd M.ib x.1 (some b) }, rfl, fun d hd => upd_other _ _ hd, ?_, fun k q => ?_, h1.to rfl ?_ rfl, h2⟩
    · simp only [upd_same, Option.isSome_some, hx, decide_true, Bool.true_or]
    · rcases q with q | q | q | q | ⟨d, q⟩
      · exact .inl (.inl q)
      · exact .inl (.inr (.inl q))
      · exact .inl (.inr (.inr (.inl q)))
      · exact .inl (.inr (.inr (.inr (.inl q))))
      · unfold upd at q
        simp only at q
        split at q
        · injection q with q
          exact .inr (by omega)
        · exact .inl (.inr (.inr (.inr (.inr ⟨d, q⟩))))
    · funext d
      unfold upd
      split
      · rename_i e
        rw [e]
        exact (funext hf).symm
      · rfl
  · refine (treeAdd_other w M fN fM fP v n x H hx).mono ?_
    rintro r w' ⟨rfl, h1, h2⟩
    exact ⟨rfl, M, rfl, fun _ _ => rfl, by simp [hx], fun k q => .inl q, h1, h2⟩
end Go.Proofs.YtoacobcbloljkaaGreatDoor

/-! # TreeRead: The walks of what a tree tells of one node or one name: dir, place, entry, Look, Find, Count, Version, Next. -/
namespace Go.Proofs.YtoacobcbloljkaaGreatDoor
open Go.RowKit

def dirF (fN : Int → Option Nd) (d : Int) : Int := match fN d with
  | none => 46
  | some n => if n.2.1 = 1 then 0 else 42

set_option maxRecDepth 100000 in
set_option maxHeartbeats 1000000 in
theorem treeDir_any (w : World) (M : TM) (fN : Int → Option Nd) (fM : Int → List UInt8 → Option Int) (fP : Int → Option Key) (v n : Int) (d : Int) (H : TreeF w M fN fM fP v n) :
    Calls Tryz.prog 89 #[.pointer (some ⟨M.t, 0, none⟩), .int .i64 d] w fun r w' => r = .returned (.int .i64 (dirF fN d)) ∧ Below w.heap.size w w' := by
  have c0 := H.c0
  have c0a : ∀ o, (w.alloc o).cell? ⟨M.t, 0, none⟩ = some (.map (some M.nb)) := fun o => (H.alloc o).c0
  have lk := H.lkN d true
  have lka : ∀ o, _ := fun o => (H.alloc o).lkN d true
  have HL := Lib.hid (H.own_lt (.inl rfl))
  clear H
  unfold dirF
  cases hn : fN d with
  | none =>
    simp only [hn, Option.map_none, Option.getD_none, Option.isSome_none, if_true, vNd, Tr.noN, txt] at lk lka
    go_enter Tryz.func89, Tryz.ntmps89
    go_wp2_with fail
    go_ret
    exact ⟨rfl, (Below.refl _ _).alloc (Nat.le_refl _) _⟩
  | some x =>
    obtain ⟨i, kd, md, tg⟩ := x
    simp only [hn, Option.map_some, Option.getD_some, Option.isSome_some, if_true, vNd, txt] at lk lka
    simp only
    by_cases hk : kd = 1
    · subst hk
      rw [if_pos rfl]
      go_enter Tryz.func89, Tryz.ntmps89
      go_wp2_with fail
      go_ret
      exact ⟨rfl, (Below.refl _ _).alloc (Nat.le_refl _) _⟩
    · rw [if_neg hk]
      have hkb : (kd == 1) = false := by simpa using hk
      go_enter Tryz.func89, Tryz.ntmps89
      go_wp2_with fail
      go_ret
      exact ⟨rfl, (Below.refl _ _).alloc (Nat.le_refl _) _⟩

set_option maxRecDepth 100000 in
set_option maxHeartbeats 1000000 in
theorem treePlace_any (w : World) (M : TM) (t : Tr.T) (d : Int) (s : List UInt8) (H : TreeAt w M t) :
    Calls Tryz.prog 85 #[.pointer (some ⟨M.t, 0, none⟩), .int .i64 d, .string ⟨s.toArray⟩] w fun r w' => r = .returned (.int .i64 (Tr.placeE t.L d s)) ∧ Below w.heap.size w w' := by
  have hdir := treeDir_any w M _ _ _ _ _ d H.F
  have e : dirF (Tr.nodeF t.L) d = Tr.dirE t.L d := rfl
  rw [e] at hdir
  have hck := fun V => check_any ⟨s.toArray⟩ V
  rw [toList_mk] at hck
  unfold Tr.placeE
  clear H e
  generalize Tr.dirE t.L d = de at hdir ⊢
  generalize Nm.checkE s = ce at hck ⊢
  by_cases hd : de = 0
  · subst hd
    rw [if_neg (by omega)]
    go_enter Tryz.func85, Tryz.ntmps85
    go_wp2_with fail
    refine hdir.mono ?_
    rintro r w1 ⟨rfl, hb1⟩
    go_wp2_with fail
    refine (hck _).mono ?_
    rintro r w2 ⟨rfl, hb2⟩
    go_wp2_with fail
    go_ret
    exact ⟨rfl, hb1.trans (hb2.mono hb1.size)⟩
  · rw [if_pos hd]
    have hdb : (de == 0) = false := by simpa using hd
    go_enter Tryz.func85, Tryz.ntmps85
    go_wp2_with fail
    refine hdir.mono ?_
    rintro r w1 ⟨rfl, hb1⟩
    go_wp2_with fail
    go_ret
    exact ⟨rfl, hb1⟩

theorem Tr.Good.nowE_fn {t : Tr.T} (h : Tr.Good t) (k : Key) : Tr.nowE t.L k = (k, !(Tr.nameF t.L k.1 k.2).isSome, (Tr.nodeF t.L ((Tr.nameF t.L k.1 k.2).getD 0)).getD Tr.noN) := by
  unfold Tr.nameF
  cases hb : Tr.byKey t.L (k.1, k.2) with
  | none =>
    have e : Tr.nowE t.L k = (k, true, Tr.noN) := by
      unfold Tr.nowE
      rw [show k = (k.1, k.2) from rfl, hb]
    rw [e]
    simp only [Option.map_none, Option.getD_none, Option.isSome_none, h.nodeF0, Bool.not_false]
  | some x =>
    obtain ⟨hx, e⟩ := Tr.byKey_some hb
    have e2 : Tr.nowE t.L k = (k, false, x.2) := by
      unfold Tr.nowE
      rw [show k = (k.1, k.2) from rfl, hb]
    rw [e2]
    simp only [Option.map_some, Option.getD_some, Option.isSome_some, h.nodeF_mem hx, Bool.not_true]

set_option maxRecDepth 100000 in
set_option maxHeartbeats 2000000 in
theorem treeEntry_any (w : World) (M : TM) (t : Tr.T) (k : Key) (H : TreeAt w M t) :
    Calls Tryz.prog 86 #[.pointer (some ⟨M.t, 0, none⟩), vKey k] w fun r w' => r = .returned (vEn (Tr.nowE t.L k)) ∧ Below w.heap.size w w' := by
  rw [H.good.nowE_fn]
  obtain ⟨d, s⟩ := k
  have F := H.F
  have ca : ∀ o, (w.alloc o).cell? ⟨M.t, 1, none⟩ = some (.map (some M.mb)) := fun o => (F.alloc o).c1
  have cb : ∀ o o', ((w.alloc o).alloc o').cell? ⟨M.t, 1, none⟩ = some (.map (some M.mb)) := fun o o' => ((F.alloc o).alloc o').c1
  have cc : ∀ o o', ((w.alloc o).alloc o').cell? ⟨M.t, 0, none⟩ = some (.map (some M.nb)) := fun o o' => ((F.alloc o).alloc o').c0
  have l1 : ∀ o o', (Instr.lookup 149 (.map (some M.mb)) (.int .i64 d) false).run Tryz.prog ((w.alloc o).alloc o').drew = _ := fun o o' => ((F.alloc o).alloc o').drew.lkM d
  have l2 : ∀ o o', (Instr.lookup 162 (.map (M.ib d)) (.string ⟨s.toArray⟩) true).run Tryz.prog ((w.alloc o).alloc o').drew = .ok (.tuple #[.int .i64 ((Tr.nameF t.L d s).getD 0), .bool (Tr.nameF t.L d s).isSome]) ((w.alloc o).alloc o').drew := fun o o' => by
    cases hib : M.ib d with
    | none =>
      rw [F.nn d hib s]
      have hu : Tryz.prog.underlying 162 = some (.map 9 3) := Tryz.underlying162
      have hk := fun W : World => keyK_name.law.check W true ⟨s, rfl⟩
      have hf : ∀ W : World, (Instr.findKey 9 (txt s) []).run Tryz.prog W = .ok none W := fun W => by
        rcases keyK_name.law.find W ⟨s, rfl⟩ [] (by simp) with h | ⟨j, e, _, h, _⟩
        · exact h.1
        · cases h
      simp only [txt] at hk hf
      simp [Instr.lookup, run_underlying hu, Result.andThen, hk, hf]
    | some b => exact ((F.alloc o).alloc o').drew.lkI hib s
  generalize Tr.nameF t.L d s = on at l2 ⊢
  have l3 : ∀ o o', (Instr.lookup 148 (.map (some M.nb)) (.int .i64 (on.getD 0)) false).run Tryz.prog ((w.alloc o).alloc o').drew.drew = .ok (vNd ((Tr.nodeF t.L (on.getD 0)).getD Tr.noN)) ((w.alloc o).alloc o').drew.drew := fun o o' => by
    have := ((F.alloc o).alloc o').drew.drew.lkN (on.getD 0) false
    simp only [Bool.false_eq_true, if_false] at this
    rw [this]
    cases Tr.nodeF t.L (on.getD 0) <;> rfl
  generalize (Tr.nodeF t.L (on.getD 0)).getD Tr.noN = nd at l3 ⊢
  have HL := Lib.hid (F.own_lt (.inl rfl))
  clear H F
  generalize M.ib d = mo at l1 l2
  generalize on.getD 0 = ida at l2 l3
  generalize on.isSome = ok at l2 ⊢
  obtain ⟨i, kd, md, tg⟩ := nd
  unfold vKey vEn
  simp only [vNd, txt] at l3 ⊢
  go_enter Tryz.func86, Tryz.ntmps86
  go_wp2_with fail
  go_region
  all_goals
    go_wp2_with fail
    go_region
    all_goals
      go_wp2_with fail
      clear l1 l2 l3 ca cb cc
      refine bodyPost_ret (v := vEn ((d, s), !ok, i, kd, md, tg)) (by simp [results, Tryz.results86, go_sem, vEn, txt]) rfl ⟨rfl, ?_⟩
      exact below_drew (below_drew (((Below.refl _ w).alloc (Nat.le_refl _) _).alloc (by simp) _))
end Go.Proofs.YtoacobcbloljkaaGreatDoor

/-! # TreeRead2: The walks of what a tree tells: Look, Find, Count, Version, Next. -/
namespace Go.Proofs.YtoacobcbloljkaaGreatDoor
open Go.RowKit

theorem results2 {fn : Func} {t u : Tmp} (h : fn.results = #[.tmp t, .tmp u]) (tmps : Array Value) (P : Program) (w : World) : (results fn tmps).run P w = .ok (.tuple #[tmps.getD t undef, tmps.getD u undef]) w := by simp [results, h]
theorem results3 {fn : Func} {t u v : Tmp} (h : fn.results = #[.tmp t, .tmp u, .tmp v]) (tmps : Array Value) (P : Program) (w : World) : (results fn tmps).run P w = .ok (.tuple #[tmps.getD t undef, tmps.getD u undef, tmps.getD v undef]) w := by simp [results, h]

def zE : List Value := [.int .i64 0, .string ⟨#[]⟩, .bool false, .int .i64 0, .int .i64 0, .int .i64 0, .string ⟨#[]⟩]
theorem en_cells {w : World} {g : Nat} {a b c d e f h : Value} (H : At w g 36 [a, b, c, d, e, f, h]) : w.cell? ⟨g, 0, none⟩ = some a ∧ w.cell? ⟨g, 1, none⟩ = some b ∧ w.cell? ⟨g, 2, none⟩ = some c ∧ w.cell? ⟨g, 3, none⟩ = some d ∧
    w.cell? ⟨g, 4, none⟩ = some e ∧ w.cell? ⟨g, 5, none⟩ = some f ∧ w.cell? ⟨g, 6, none⟩ = some h :=
  ⟨H.cell 0, H.cell 1, H.cell 2, H.cell 3, H.cell 4, H.cell 5, H.cell 6⟩
theorem below_sets7 {w w1 : World} {g : Nat} {v0 v1 v2 v3 v4 v5 v6 : Value} (h : Below w.heap.size w w1) (hg : w.heap.size ≤ g) :
    Below w.heap.size w (((((((w1.setCell ⟨g, 0, none⟩ v0).setCell ⟨g, 1, none⟩ v1).setCell ⟨g, 2, none⟩ v2).setCell ⟨g, 3, none⟩ v3).setCell ⟨g, 4, none⟩ v4).setCell ⟨g, 5, none⟩ v5).setCell ⟨g, 6, none⟩ v6) :=
  ((((((h.setCell hg _).setCell hg _).setCell hg _).setCell hg _).setCell hg _).setCell hg _).setCell hg _
theorem below_sets4 {w w1 : World} {g : Nat} {v0 v1 v2 v3 : Value} (h : Below w.heap.size w w1) (hg : w.heap.size ≤ g) :
    Below w.heap.size w ((((w1.setCell ⟨g, 0, none⟩ v0).setCell ⟨g, 1, none⟩ v1).setCell ⟨g, 2, none⟩ v2).setCell ⟨g, 3, none⟩ v3) :=
  (((h.setCell hg _).setCell hg _).setCell hg _).setCell hg _

set_option maxRecDepth 100000 in
set_option maxHeartbeats 1000000 in
theorem treeLook_any (w : World) (M : TM) (t : Tr.T) (d : Int) (s : List UInt8) (H : TreeAt w M t) :
    Calls Tryz.prog 26 #[.pointer (some ⟨M.t, 0, none⟩), .int .i64 d, .string ⟨s.toArray⟩] w fun r w' => r = .returned (.tuple #[vEn (Tr.lookR t.L d s).1, .int .i64 (Tr.lookR t.L d s).2]) ∧ Below w.heap.size w w' := by
  have hpl := fun V H => treePlace_any V M t d s H
  have hen := fun V H => treeEntry_any V M t (d, s) H
  unfold Tr.lookR
  generalize Tr.placeE t.L d s = pe at hpl ⊢
  generalize Tr.nowE t.L (d, s) = en at hen ⊢
  obtain ⟨⟨ed, es⟩, eng, ei, ek, em, et⟩ := en
  have AO := At.new w 36 zE
  have H0 := H.alloc (.cells zE.toArray 36)
  have HH := Lib.hid H0
  have HA := Lib.hid AO
  have HP := Lib.hid hpl
  have HE := Lib.hid hen
  clear H H0 AO hpl hen
  by_cases hp : pe = 0
  · subst hp
    rw [if_neg (by omega)]
    go_enter Tryz.func26, Tryz.ntmps26
    go_wp2_with fail
    refine (HP.out _ HH.out).mono ?_
    rintro r w1 ⟨rfl, hb1⟩
    have hbw : Below w.heap.size w w1 := ((Below.refl _ w).alloc (Nat.le_refl _) _).trans (hb1.mono (by simp))
    have H1 := Lib.hid (HH.out.below hb1)
    have HA1 := Lib.hid (HA.out.below hb1)
    have HB := Lib.hid hbw
    clear hb1 hbw
    go_wp2_with fail
    refine (HE.out _ H1.out).mono ?_
    rintro r w2 ⟨rfl, hb2⟩
    have A2 := HA1.out.below hb2
    obtain ⟨b0, b1, b2, b3, b4, b5, b6⟩ := en_cells A2
    have bf := A2.frozen
    have HB2 := Lib.hid (HB.out.trans (hb2.mono HB.out.size))
    clear A2 hb2
    simp only [vEn, txt]
    go_wp2_with fail
    refine bodyPost_ret (v := .tuple #[vEn ((ed, es), eng, ei, ek, em, et), .int .i64 0]) (by simp [results, Tryz.results26, go_sem, vEn, txt, b0, b1, b2, b3, b4, b5, b6]) rfl ?_
    exact ⟨rfl, below_sets7 HB2.out (Nat.le_refl _)⟩
  · rw [if_pos hp]
    have hpb : (pe == 0) = false := by simpa using hp
    go_enter Tryz.func26, Tryz.ntmps26
    go_wp2_with fail
    refine (HP.out _ HH.out).mono ?_
    rintro r w1 ⟨rfl, hb1⟩
    have A1 := HA.out.below hb1
    obtain ⟨b0, b1, b2, b3, b4, b5, b6⟩ := en_cells A1
    have bf := A1.frozen
    have HB := Lib.hid (((Below.refl _ w).alloc (Nat.le_refl _) _).trans (hb1.mono (by simp)))
    clear A1 hb1
    go_wp2_with fail
    refine bodyPost_ret (v := .tuple #[vEn Tr.noE, .int .i64 pe]) (by simp [results, Tryz.results26, go_sem, vEn, txt, Tr.noE, Tr.noN, b0, b1, b2, b3, b4, b5, b6]) rfl ?_
    exact ⟨rfl, below_sets7 HB.out (Nat.le_refl _)⟩

theorem Tr.findR_fn {t : Tr.T} (h : Tr.Good t) (id : Int) : Tr.findR t.L id = match Tr.nodeF t.L id with
    | none => (Tr.noE, 46)
    | some _ => if id = 1 then (Tr.noE, 1) else (Tr.nowE t.L ((Tr.placeF t.L id).getD (0, [])), 0) := by
  unfold Tr.findR Tr.nodeF Tr.placeF
  by_cases h1 : id = 1
  · rw [if_pos h1, if_pos h1]
    simp [h1]
  · rw [if_neg h1, if_neg h1]
    cases hb : Tr.byId t.L id with
    | none => rfl
    | some x =>
      obtain ⟨hx, rfl⟩ := Tr.byId_some hb
      simp only [Option.map_some, Option.getD_some, if_neg h1, h.nowE_mem hx]

set_option maxRecDepth 100000 in
set_option maxHeartbeats 1000000 in
theorem treeFind_any (w : World) (M : TM) (t : Tr.T) (id : Int) (H : TreeAt w M t) :
    Calls Tryz.prog 38 #[.pointer (some ⟨M.t, 0, none⟩), .int .i64 id] w fun r w' => r = .returned (.tuple #[vEn (Tr.findR t.L id).1, .int .i64 (Tr.findR t.L id).2]) ∧ Below w.heap.size w w' := by
  rw [Tr.findR_fn H.good]
  have F := H.F
  have c0a : ∀ o, (w.alloc o).cell? ⟨M.t, 0, none⟩ = some (.map (some M.nb)) := fun o => (F.alloc o).c0
  have c0b : ∀ o o', ((w.alloc o).alloc o').cell? ⟨M.t, 0, none⟩ = some (.map (some M.nb)) := fun o o' => ((F.alloc o).alloc o').c0
  have c2b : ∀ o o', ((w.alloc o).alloc o').cell? ⟨M.t, 2, none⟩ = some (.map (some M.pb)) := fun o o' => ((F.alloc o).alloc o').c2
  have lka : ∀ o, _ := fun o => (F.alloc o).lkN id true
  have lkb : ∀ o o', _ := fun o o' => ((F.alloc o).alloc o').lkN id true
  have lkp : ∀ o o', _ := fun o o' => ((F.alloc o).alloc o').lkP id
  have lkp' : ∀ o o', (Instr.lookup 150 (.map (some M.pb)) (.int .i64 id) false).run Tryz.prog ((w.alloc o).alloc o') = .ok (vKey ((Tr.placeF t.L id).getD (0, []))) ((w.alloc o).alloc o') := fun o o' => by
    rw [lkp]
    cases Tr.placeF t.L id <;> rfl
  clear lkp
  generalize (Tr.placeF t.L id).getD (0, []) = pk at lkp' ⊢
  have hen := fun V H => treeEntry_any V M t pk H
  generalize Tr.nowE t.L pk = en at hen ⊢
  obtain ⟨⟨ed, es⟩, eng, ei, ek, em, et⟩ := en
  have hl := F.own_lt (.inl rfl)
  have HE := Lib.hid hen
  have HH := Lib.hid H
  clear H F hen
  cases hn : Tr.nodeF t.L id with
  | none =>
    simp only [hn, Option.map_none, Option.getD_none, Option.isSome_none, if_true, vNd, Tr.noN, txt] at lka lkb
    go_enter Tryz.func38, Tryz.ntmps38
    go_wp2_with fail
    clear lka lkb lkp' c0a c0b c2b
    refine bodyPost_ret (v := .tuple #[vEn Tr.noE, .int .i64 46]) (by simp [results, Tryz.results38, go_sem, vEn, txt, Tr.noE, Tr.noN]) rfl ⟨rfl, ?_⟩
    first
      | exact ((Below.refl _ w).alloc (Nat.le_refl _) _).alloc (by simp) _
      | exact below_sets7 (((Below.refl _ w).alloc (Nat.le_refl _) _).alloc (by simp) _) (Nat.le_refl _)
  | some x =>
    obtain ⟨i, kd, md, tg⟩ := x
    simp only [hn, Option.map_some, Option.getD_some, Option.isSome_some, if_true, vNd, txt] at lka lkb
    by_cases h1 : id = 1
    · subst h1
      simp only [if_true]
      go_enter Tryz.func38, Tryz.ntmps38
      go_wp2_with fail
      clear lka lkb lkp' c0a c0b c2b
      refine bodyPost_ret (v := .tuple #[vEn Tr.noE, .int .i64 1]) (by simp [results, Tryz.results38, go_sem, vEn, txt, Tr.noE, Tr.noN]) rfl ⟨rfl, ?_⟩
      first
        | exact ((Below.refl _ w).alloc (Nat.le_refl _) _).alloc (by simp) _
        | exact below_sets7 (((Below.refl _ w).alloc (Nat.le_refl _) _).alloc (by simp) _) (Nat.le_refl _)
    · have h1b : (id == 1) = false := by simpa using h1
      simp only [if_neg h1]
      go_enter Tryz.func38, Tryz.ntmps38
      go_wp2_with fail
      refine (HE.out _ ((HH.out.alloc _).alloc _)).mono ?_
      rintro r w2 ⟨rfl, hb2⟩
      have A2 : At w2 w.heap.size 36 zE := ((At.new w 36 zE).alloc _).below hb2
      obtain ⟨b0, b1, b2, b3, b4, b5, b6⟩ := en_cells A2
      have bf := A2.frozen
      have HB2 := Lib.hid ((((Below.refl _ w).alloc (Nat.le_refl _) _).alloc (by simp) _).trans (hb2.mono (by simp; omega)))
      clear A2 hb2 lka lkb lkp' c0a c0b c2b
      simp only [vEn, txt]
      go_wp2_with fail
      refine bodyPost_ret (v := .tuple #[vEn ((ed, es), eng, ei, ek, em, et), .int .i64 0]) (by simp [results, Tryz.results38, go_sem, vEn, txt, b0, b1, b2, b3, b4, b5, b6]) rfl ?_
      exact ⟨rfl, below_sets7 HB2.out (Nat.le_refl _)⟩

set_option maxRecDepth 100000 in
theorem treeCount_any (w : World) (M : TM) (t : Tr.T) (H : TreeAt w M t) :
    Calls Tryz.prog 48 #[.pointer (some ⟨M.t, 0, none⟩)] w fun r w' => r = .returned (.int .i64 (t.L.length + 1)) ∧ w = w' := by
  have c0 := H.F.c0
  have hl : ∀ ty, (Builtin.len_ #[148] ty #[.map (some M.nb)]).run Tryz.prog w = .ok (.int .i64 ((Tr.ids t).length : Nat)) w := fun ty => H.F.mn.len (ty := ty) Tryz.underlying148 H.good.ids_nodup fun a => Tr.Good.ids_mem a
  have e : ((Tr.ids t).length : Nat) = t.L.length + 1 := by unfold Tr.ids; simp
  rw [e] at hl
  clear H e
  go_enter Tryz.func48, Tryz.ntmps48
  go_wp2_with fail
  go_ret
  exact ⟨rfl, rfl⟩
set_option maxRecDepth 100000 in
theorem treeVersion_any (w : World) (M : TM) (t : Tr.T) (H : TreeAt w M t) :
    Calls Tryz.prog 45 #[.pointer (some ⟨M.t, 0, none⟩)] w fun r w' => r = .returned (.int .i64 t.vers) ∧ w = w' := by
  have c := H.F.c3
  clear H
  go_enter Tryz.func45, Tryz.ntmps45
  go_wp2_with fail
  go_ret
  exact ⟨rfl, rfl⟩
set_option maxRecDepth 100000 in
theorem treeNext_any (w : World) (M : TM) (t : Tr.T) (H : TreeAt w M t) :
    Calls Tryz.prog 46 #[.pointer (some ⟨M.t, 0, none⟩)] w fun r w' => r = .returned (.int .i64 t.next) ∧ w = w' := by
  have c := H.F.c4
  clear H
  go_enter Tryz.func46, Tryz.ntmps46
  go_wp2_with fail
  go_ret
  exact ⟨rfl, rfl⟩
end Go.Proofs.YtoacobcbloljkaaGreatDoor

/-! # TreeIn: The walks of inside, gives, goodMode, found. -/
namespace Go.Proofs.YtoacobcbloljkaaGreatDoor
open Go.RowKit

theorem below_after {w w1 : World} {o : Obj} (h : Below (w.alloc o).heap.size (w.alloc o) w1) : Below w.heap.size w w1 := ((Below.refl _ w).alloc (Nat.le_refl _) _).trans (h.mono (by simp))

namespace Tr
theorem inside_fuel {L : List TE} (hi : (L.map fun x => x.2.1).Nodup) {k : Nat} {d : Int} (h : Hang L k d) (id : Int) : ∀ f, k ≤ f → inside L f d id = inside L k d id := by
  induction h with
  | root =>
    intro f _
    cases f with
    | zero => rfl
    | succ f =>
      simp only [inside]
      by_cases e : 1 = id <;> simp [e]
  | @up k x hx h1 hk ih =>
    intro f hf
    obtain ⟨f, rfl⟩ : ∃ g, f = g + 1 := ⟨f - 1, by omega⟩
    simp only [inside]
    rw [byId_of hi hx]
    by_cases e : x.2.1 = id
    · rw [if_pos e, if_pos e]
    · rw [if_neg e, if_neg e, if_neg h1, if_neg h1]
      exact ih f (by omega)
theorem Hang.step {L : List TE} {k : Nat} {d : Int} (h : Hang L k d) (h1 : d ≠ 1) : ∃ k' x, k = k' + 1 ∧ x ∈ L ∧ x.2.1 = d ∧ Hang L k' x.1.1 := by
  cases h with
  | root => exact absurd rfl h1
  | @up k x hx _ hk => exact ⟨k, x, rfl, hx, rfl, hk⟩
theorem inside_same {L : List TE} (k : Nat) (d : Int) : inside L k d d = true := by cases k <;> simp [inside]
theorem inside_root {L : List TE} (k : Nat) (id : Int) (h : (1 : Int) ≠ id) : inside L k 1 id = false := by cases k <;> simp [inside, h]
end Tr

set_option maxRecDepth 100000 in
set_option maxHeartbeats 1000000 in
theorem treeInside_any (w : World) (M : TM) (t : Tr.T) (d id : Int) (H : TreeAt w M t) (hd : Tr.isDir t.L d = true) :
    Calls Tryz.prog 174 #[.pointer (some ⟨M.t, 0, none⟩), .int .i64 d, .int .i64 id] w fun r w' => r = .returned (.bool (Tr.inside t.L t.L.length d id)) ∧ w = w' := by
  obtain ⟨k0, hk0⟩ := H.good.hangDir hd
  have hf := Tr.inside_fuel H.good.ids hk0 id t.L.length (hk0.le H.good.ids)
  rw [hf]
  obtain ⟨R, hR⟩ : ∃ R, Tr.inside t.L k0 d id = R := ⟨_, rfl⟩
  rw [hR]
  have c2 := H.F.c2
  have lk := fun d => H.F.lkP d
  have HG := Lib.hid H.good
  have HL := Lib.hid lk
  have HK : Hid (Tr.Hang t.L k0 d ∧ Tr.inside t.L k0 d id = R) := ⟨hk0, hR⟩
  clear H hd hk0 hf hR lk
  go_enter Tryz.func174, Tryz.ntmps174
  go_wp2_with fail
  go_loopg [1] k0 (fun g v wx => ∃ (e : Int), v = .int .i64 e ∧ Hid (Tr.Hang t.L g e ∧ Tr.inside t.L g e id = R) ∧ w = wx)
  case atStart => exact ⟨d, rfl, HK, rfl⟩
  case round =>
    obtain ⟨e, rfl, HI, rfl⟩ := hrel
    by_cases h1 : e = id
    · subst h1
      have hR := HI.out.2
      rw [Tr.inside_same] at hR
      subst hR
      go_wp2_with fail
      go_ret
      exact ⟨by simp, rfl⟩
    · have h1b : (e == id) = false := by simpa using h1
      by_cases h2 : e = 1
      · subst h2
        have hR := HI.out.2
        rw [Tr.inside_root _ _ h1] at hR
        subst hR
        go_wp2_with fail
        go_ret
        exact ⟨rfl, rfl⟩
      · have h2b : (e == 1) = false := by simpa using h2
        have h1c : (e != id) = true := by simpa using h1
        have h2c : (e != 1) = true := by simpa using h2
        obtain ⟨hh, hr⟩ := HI.out
        obtain ⟨k, x, rfl, hx, hxe, hk⟩ := hh.step h2
        have lx := HL.out e
        rw [← hxe, HG.out.placeF_mem hx, hxe] at lx
        simp only [Option.map_some, Option.getD_some, vKey, txt] at lx
        have hnew : Tr.inside t.L k x.1.1 id = R := by
          rw [← hr]
          simp only [Tr.inside]
          rw [if_neg h1, if_neg h2, ← hxe, Tr.byId_of HG.out.ids hx]
        have HN : Hid (Tr.Hang t.L k x.1.1 ∧ Tr.inside t.L k x.1.1 id = R) := ⟨hk, hnew⟩
        have hfd : ∀ W, (Instr.field 32 (.agg #[.int .i64 x.1.1, .string ⟨x.1.2.toArray⟩]) 0).run Tryz.prog W = .ok (.int .i64 x.1.1) W := fun W => by kernel_rfl
        clear hr hnew hk HI hx hxe hh h1 h2
        go_wp2_with fail
        clear lx
        go_roundg k
        case measure => omega
        case rel => exact ⟨x.1.1, rfl, HN, rfl⟩

set_option maxRecDepth 100000 in
theorem goodMode_any (m : Int) (w : World) : Calls Tryz.prog 133 #[.int .i64 m] w fun r w' => r = .returned (.bool (Tr.goodMode m)) ∧ w = w' := by
  unfold Tr.goodMode
  by_cases h1 : 0 ≤ m
  · by_cases h2 : m ≤ 511
    · have e1 : decide (0 ≤ m) = true := by simpa using h1
      have e2 : decide (m ≤ 511) = true := by simpa using h2
      go_enter Tryz.func133, Tryz.ntmps133
      go_wp2_with fail
      go_ret
      exact ⟨by simp [e1, e2], rfl⟩
    · have e1 : decide (0 ≤ m) = true := by simpa using h1
      have e2 : decide (m ≤ 511) = false := by simpa using h2
      go_enter Tryz.func133, Tryz.ntmps133
      go_wp2_with fail
      go_ret
      exact ⟨by simp, rfl⟩
  · have e1 : decide (0 ≤ m) = false := by simpa using h1
    go_enter Tryz.func133, Tryz.ntmps133
    go_wp2_with fail
    go_ret
    exact ⟨by simp, rfl⟩

set_option maxRecDepth 100000 in
set_option maxHeartbeats 2000000 in
theorem treeGives_any (w : World) (M : TM) (t : Tr.T) (x old : Nd) (H : TreeAt w M t) (hd : old.2.1 = 1 → Tr.isDir t.L old.1 = true) :
    Calls Tryz.prog 175 #[.pointer (some ⟨M.t, 0, none⟩), vNd x, vNd old] w fun r w' => r = .returned (.int .i64 (Tr.gives t.L x old)) ∧ Below w.heap.size w w' := by
  obtain ⟨xi, xk, xm, xt⟩ := x
  obtain ⟨yi, yk, ym, yt⟩ := old
  simp only at hd
  unfold Tr.gives vNd
  simp only [txt]
  have hlt := H.F.own_lt (.inl rfl)
  by_cases hx : xk = 1
  · subst hx
    by_cases hy : yk = 1
    · subst hy
      obtain ⟨b, hb⟩ := H.ib (hd rfl)
      have lk := H.F.lkM yi
      rw [hb] at lk
      have lka : ∀ o o', (Instr.lookup 149 (.map (some M.mb)) (.int .i64 yi) false).run Tryz.prog ((w.alloc o).alloc o').drew.drew = .ok (.map (some b)) ((w.alloc o).alloc o').drew.drew := fun o o' => by
        have := ((H.F.alloc o).alloc o').drew.drew.lkM yi
        rwa [hb] at this
      have c1 : ∀ o o', ((w.alloc o).alloc o').cell? ⟨M.t, 1, none⟩ = some (.map (some M.mb)) := fun o o' => ((H.F.alloc o).alloc o').c1
      have hl : ∀ o o' ty, (Builtin.len_ #[162] ty #[.map (some b)]).run Tryz.prog ((w.alloc o).alloc o').drew.drew = .ok (.int .i64 (((Tr.ofDir t.L yi).map fun x => x.1.2).length : Nat)) ((w.alloc o).alloc o').drew.drew := fun o o' ty =>
        (((H.F.alloc o).alloc o').drew.drew.mi yi b hb).len (ty := ty) Tryz.underlying162 (Tr.ofDir_names H.good.keys yi) (fun s => Tr.Good.names_mem yi s)
      rw [List.length_map] at hl
      by_cases he : Tr.ofDir t.L yi = []
      · rw [if_neg (by simp), if_neg (by simp), if_neg (by simp [he])]
        rw [he] at hl
        simp only [List.length_nil] at hl
        clear H hd hb lk he
        go_enter Tryz.func175, Tryz.ntmps175
        go_wp2_with fail
        go_region
        all_goals
          go_wp2_with fail
          go_region
          all_goals
            go_wp2_with fail
            clear lka c1 hl
            go_ret
            exact ⟨rfl, below_drew (below_drew (((Below.refl _ w).alloc (Nat.le_refl _) _).alloc (by simp) _))⟩
      · rw [if_neg (by simp), if_neg (by simp), if_pos ⟨rfl, he⟩]
        have hpos : (0 : Int) < ((Tr.ofDir t.L yi).length : Nat) := by
          have : 0 < (Tr.ofDir t.L yi).length := List.length_pos_iff.2 he
          omega
        generalize (Tr.ofDir t.L yi).length = q at hl hpos
        clear H hd hb lk he
        go_enter Tryz.func175, Tryz.ntmps175
        go_wp2_with fail
        go_region
        all_goals
          go_wp2_with fail
          go_region
          all_goals
            go_wp2_with fail
            clear lka c1 hl
            go_ret
            exact ⟨rfl, below_drew (below_drew (((Below.refl _ w).alloc (Nat.le_refl _) _).alloc (by simp) _))⟩
    · rw [if_pos ⟨rfl, hy⟩]
      have hyb : (yk == 1) = false := by simpa using hy
      clear H hd
      go_enter Tryz.func175, Tryz.ntmps175
      go_wp2_with fail
      go_region
      all_goals
        go_wp2_with fail
        go_ret
        exact ⟨rfl, below_drew (((Below.refl _ w).alloc (Nat.le_refl _) _).alloc (by simp) _)⟩
  · have hxb : (xk == 1) = false := by simpa using hx
    rw [if_neg (by simp [hx])]
    by_cases hy : yk = 1
    · subst hy
      rw [if_pos ⟨rfl, hx⟩]
      clear H hd
      go_enter Tryz.func175, Tryz.ntmps175
      go_wp2_with fail
      go_region
      all_goals
        go_wp2_with fail
        go_ret
        exact ⟨rfl, below_drew (((Below.refl _ w).alloc (Nat.le_refl _) _).alloc (by simp) _)⟩
    · rw [if_neg (by simp [hy]), if_neg (by simp [hy])]
      have hyb : (yk == 1) = false := by simpa using hy
      clear H hd
      go_enter Tryz.func175, Tryz.ntmps175
      go_wp2_with fail
      go_region
      all_goals
        go_wp2_with fail
        go_region
        all_goals
          go_wp2_with fail
          go_ret
          exact ⟨rfl, below_drew (below_drew (((Below.refl _ w).alloc (Nat.le_refl _) _).alloc (by simp) _))⟩

theorem node_sets {w1 : World} {g : Nat} {a b c d : Value} (A : At w1 g 34 [a, b, c, d]) (v0 v1 v2 v3 : Value) (o : Obj) :
    (((((w1.setCell ⟨g, 0, none⟩ v0).setCell ⟨g, 1, none⟩ v1).setCell ⟨g, 2, none⟩ v2).setCell ⟨g, 3, none⟩ v3).alloc o).cell? ⟨g, 0, none⟩ = some v0 ∧
    (((((w1.setCell ⟨g, 0, none⟩ v0).setCell ⟨g, 1, none⟩ v1).setCell ⟨g, 2, none⟩ v2).setCell ⟨g, 3, none⟩ v3).alloc o).cell? ⟨g, 1, none⟩ = some v1 ∧
    (((((w1.setCell ⟨g, 0, none⟩ v0).setCell ⟨g, 1, none⟩ v1).setCell ⟨g, 2, none⟩ v2).setCell ⟨g, 3, none⟩ v3).alloc o).cell? ⟨g, 2, none⟩ = some v2 ∧
    (((((w1.setCell ⟨g, 0, none⟩ v0).setCell ⟨g, 1, none⟩ v1).setCell ⟨g, 2, none⟩ v2).setCell ⟨g, 3, none⟩ v3).alloc o).cell? ⟨g, 3, none⟩ = some v3 := by
  have AF := ((((A.setCell 0 v0).setCell 1 v1).setCell 2 v2).setCell 3 v3).alloc o
  exact ⟨AF.cell 0, AF.cell 1, AF.cell 2, AF.cell 3⟩

namespace Tr
/-- The node of a name that there must be. -/
def foundR (L : List TE) (d : Int) (s : List UInt8) : Nd × Int := ((lookR L d s).1.2.2, if (lookR L d s).2 = 0 ∧ (lookR L d s).1.2.1 = true then 40 else (lookR L d s).2)
end Tr

set_option maxRecDepth 100000 in
set_option maxHeartbeats 1000000 in
theorem treeFound_any (w : World) (M : TM) (t : Tr.T) (d : Int) (s : List UInt8) (H : TreeAt w M t) :
    Calls Tryz.prog 172 #[.pointer (some ⟨M.t, 0, none⟩), .int .i64 d, .string ⟨s.toArray⟩] w fun r w' => r = .returned (.tuple #[vNd (Tr.foundR t.L d s).1, .int .i64 (Tr.foundR t.L d s).2]) ∧ Below w.heap.size w w' := by
  have hlo := fun V H => treeLook_any V M t d s H
  unfold Tr.foundR
  generalize Tr.lookR t.L d s = lr at hlo ⊢
  obtain ⟨⟨⟨ed, es⟩, eng, ei, ek, em, et⟩, er⟩ := lr
  simp only at hlo ⊢
  have AO := At.new w 34 [.int .i64 0, .int .i64 0, .int .i64 0, .string ⟨#[]⟩]
  have H0 := H.alloc (.cells #[.int .i64 0, .int .i64 0, .int .i64 0, .string ⟨#[]⟩] 34)
  have HH := Lib.hid H0
  have HA := Lib.hid AO
  have HL := Lib.hid hlo
  clear H H0 AO hlo
  by_cases h0 : er = 0
  · subst h0
    cases eng with
    | true =>
      rw [if_pos ⟨rfl, rfl⟩]
      go_enter Tryz.func172, Tryz.ntmps172
      go_wp2_with fail
      refine (HL.out _ HH.out).mono ?_
      rintro r w1 ⟨rfl, hb1⟩
      have A1 := HA.out.below hb1
      have a0 : w1.cell? ⟨w.heap.size, 0, none⟩ = some (.int .i64 0) := A1.cell 0
      have a1 : w1.cell? ⟨w.heap.size, 1, none⟩ = some (.int .i64 0) := A1.cell 1
      have a2 : w1.cell? ⟨w.heap.size, 2, none⟩ = some (.int .i64 0) := A1.cell 2
      have a3 : w1.cell? ⟨w.heap.size, 3, none⟩ = some (.string ⟨#[]⟩) := A1.cell 3
      have bf : ∀ k, w1.frozen? ⟨w.heap.size, k, none⟩ = false := A1.frozen
      have HSE := Lib.hid (node_sets A1 (.int .i64 ei) (.int .i64 ek) (.int .i64 em) (.string ⟨et.toArray⟩))
      have HB1 := Lib.hid hb1
      have hlt : w.heap.size < w1.heap.size := A1.lt
      clear hb1 A1
      simp only [vEn, txt]
      go_wp2_with fail
      have hs := HSE.out
      refine bodyPost_ret (v := .tuple #[vNd (ei, ek, em, et), .int .i64 40]) (by simp [results, Tryz.results172, go_sem, vNd, txt, hs]) rfl ?_
      exact ⟨rfl, (below_sets4 (below_after HB1.out) (Nat.le_refl _)).alloc (below_sets4 (below_after HB1.out) (Nat.le_refl _)).size _⟩
    | false =>
      rw [if_neg (by simp)]
      go_enter Tryz.func172, Tryz.ntmps172
      go_wp2_with fail
      refine (HL.out _ HH.out).mono ?_
      rintro r w1 ⟨rfl, hb1⟩
      have A1 := HA.out.below hb1
      have a0 : w1.cell? ⟨w.heap.size, 0, none⟩ = some (.int .i64 0) := A1.cell 0
      have a1 : w1.cell? ⟨w.heap.size, 1, none⟩ = some (.int .i64 0) := A1.cell 1
      have a2 : w1.cell? ⟨w.heap.size, 2, none⟩ = some (.int .i64 0) := A1.cell 2
      have a3 : w1.cell? ⟨w.heap.size, 3, none⟩ = some (.string ⟨#[]⟩) := A1.cell 3
      have bf : ∀ k, w1.frozen? ⟨w.heap.size, k, none⟩ = false := A1.frozen
      have HSE := Lib.hid (node_sets A1 (.int .i64 ei) (.int .i64 ek) (.int .i64 em) (.string ⟨et.toArray⟩))
      have HB1 := Lib.hid hb1
      have hlt : w.heap.size < w1.heap.size := A1.lt
      clear hb1 A1
      simp only [vEn, txt]
      go_wp2_with fail
      have hs := HSE.out
      refine bodyPost_ret (v := .tuple #[vNd (ei, ek, em, et), .int .i64 0]) (by simp [results, Tryz.results172, go_sem, vNd, txt, hs]) rfl ?_
      exact ⟨rfl, (below_sets4 (below_after HB1.out) (Nat.le_refl _)).alloc (below_sets4 (below_after HB1.out) (Nat.le_refl _)).size _⟩
  · rw [if_neg (by simp [h0])]
    have h0b : (er == 0) = false := by simpa using h0
    go_enter Tryz.func172, Tryz.ntmps172
    go_wp2_with fail
    refine (HL.out _ HH.out).mono ?_
    rintro r w1 ⟨rfl, hb1⟩
    have A1 := HA.out.below hb1
    have a0 : w1.cell? ⟨w.heap.size, 0, none⟩ = some (.int .i64 0) := A1.cell 0
    have a1 : w1.cell? ⟨w.heap.size, 1, none⟩ = some (.int .i64 0) := A1.cell 1
    have a2 : w1.cell? ⟨w.heap.size, 2, none⟩ = some (.int .i64 0) := A1.cell 2
    have a3 : w1.cell? ⟨w.heap.size, 3, none⟩ = some (.string ⟨#[]⟩) := A1.cell 3
    have bf : ∀ k, w1.frozen? ⟨w.heap.size, k, none⟩ = false := A1.frozen
    have HSE := Lib.hid (node_sets A1 (.int .i64 ei) (.int .i64 ek) (.int .i64 em) (.string ⟨et.toArray⟩))
    have HB1 := Lib.hid hb1
    have hlt : w.heap.size < w1.heap.size := A1.lt
    clear hb1 A1
    simp only [vEn, txt]
    go_wp2_with fail
    have hs := HSE.out
    refine bodyPost_ret (v := .tuple #[vNd (ei, ek, em, et), .int .i64 er]) (by simp [results, Tryz.results172, go_sem, vNd, txt, hs]) rfl ?_
    exact ⟨rfl, (below_sets4 (below_after HB1.out) (Nat.le_refl _)).alloc (below_sets4 (below_after HB1.out) (Nat.le_refl _)).size _⟩
end Go.Proofs.YtoacobcbloljkaaGreatDoor
