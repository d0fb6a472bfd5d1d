/-
  Several texts in one: TreeDo, TreeDo2, TreeDo3, TreeDo4, TreeMap.
-/
import Derived.Test.YtoacobcbloljkaaGreatDoorTreeR
import Derived.Test.YtoacobcbloljkaaGreatDoorTreePlain
import Derived.Test.YtoacobcbloljkaaGreatDoorLow
import Derived.Test.YtoacobcbloljkaaGreatDoorTreeMem
/-! # TreeDo: The walks of the tree's mutations: make, plain, create, mkdir, symlink, unlink, rmdir. -/
namespace Go.Proofs.YtoacobcbloljkaaGreatDoor
open Go.RowKit

/-- Behind a mutation that leaves the tree t', tells e and the keys ks. -/
def DoPost (w : World) (M : TM) (t' : Tr.T) (e : Int) (ks : List Key) (r : Ending) (w' : World) : Prop :=
  ∃ (kv : Value) (M' : TM), r = .returned (.tuple #[kv, .int .i64 e]) ∧ w'.ownsRow w.heap.size 32 2 kv ks.length (cKeys ks) ∧ TreeAt w' M' t' ∧ M'.t = M.t ∧ (∀ k, M'.own k → M.own k ∨ w.heap.size ≤ k) ∧
    (∀ k, kv.ownBlock = some k → ¬ M'.own k) ∧ Kp (fun k => ¬ M.own k) w w'

theorem DoPost.no {w w' : World} {M : TM} {t : Tr.T} {e : Int} (H : TreeAt w M t) (hb : Below w.heap.size w w') : DoPost w M t e [] (.returned (.tuple #[.slice none 0 0, .int .i64 e])) w' :=
  ⟨_, M, rfl, World.ownsRow_nil _ _ _ _, H.below hb, rfl, fun _ h => .inl h, by simp [Value.ownBlock], Kp.of_below hb⟩

theorem DoPost.base {w w1 w' : World} {M : TM} {t' : Tr.T} {e : Int} {ks : List Key} {r : Ending} (hb : Below w.heap.size w w1) (h : DoPost w1 M t' e ks r w') : DoPost w M t' e ks r w' := by
  obtain ⟨kv, M', h1, h2, h3, h4, h5, h6, h7⟩ := h
  refine ⟨kv, M', h1, own_base h2 hb.size, h3, h4, fun k q => ?_, h6, (Kp.of_below hb).trans h7⟩
  rcases h5 k q with q | q
  · exact .inl q
  · have := hb.size
    exact .inr (by omega)

/-- Two ways, the second by blocks of the first's own and new ones. -/
theorem Kp.join {P Q : Nat → Prop} {a b c : World} (h : Kp P a b) (k : Kp Q b c) (hq : ∀ i, i < a.heap.size → P i → Q i) : Kp P a c :=
  ⟨k.os.trans h.os, k.tape.trans h.tape, k.output.trans h.output, Nat.le_trans h.size k.size, fun i hi hlt => (k.block i (hq i hlt hi) (Nat.lt_of_lt_of_le hlt h.size)).trans (h.block i hi hlt)⟩

theorem one_key (w : World) (k : Key) (base : Nat) (hb : base ≤ w.heap.size) :
    (w.alloc (.cells #[.int .i64 k.1, .string ⟨k.2.toArray⟩] 32)).ownsRow base 32 2 (.slice (some ⟨w.heap.size, 0, none⟩) 1 1) 1 (cKeys [k]) := by
  refine ⟨rfl, .inr ⟨w.heap.size, 1, _, rfl, hb, heap_alloc_new w _, by omega, by unfold maxLen; omega, by simp, by simp [cKeys, cKey, txt]⟩⟩
theorem two_keys (w : World) (k l : Key) (base : Nat) (hb : base ≤ w.heap.size) :
    (w.alloc (.cells #[.int .i64 k.1, .string ⟨k.2.toArray⟩, .int .i64 l.1, .string ⟨l.2.toArray⟩] 32)).ownsRow base 32 2 (.slice (some ⟨w.heap.size, 0, none⟩) 2 2) 2 (cKeys [k, l]) := by
  refine ⟨rfl, .inr ⟨w.heap.size, 2, _, rfl, hb, heap_alloc_new w _, by omega, by unfold maxLen; omega, by simp, by simp [cKeys, cKey, txt]⟩⟩

theorem field_neg (d : Int) (s : ByteArray) (ng : Bool) (i k m : Int) (tg : ByteArray) (W : World) : (Instr.field 36 (.agg #[.int .i64 d, .string s, .bool ng, .int .i64 i, .int .i64 k, .int .i64 m, .string tg]) 1).run Tryz.prog W = .ok (.bool ng) W := by kernel_rfl

theorem upd_eta {κ ν : Type} [DecidableEq κ] {f : κ → ν} {a : κ} {v : ν} (h : f a = v) : upd f a v = f := by subst h; exact upd_id f a

/-- The functions of a tree with one more entry. -/
theorem TreeF.put_done {w : World} {M : TM} {t : Tr.T} {v nx : Int} (k : Key) (n : Nd) (hg : Tr.Good t) (hn : n.1 = t.next) (hk : Tr.byKey t.L k = none)
    (H : TreeF w M (upd (Tr.nodeF t.L) n.1 (some n)) (upd (Tr.nameF t.L) k.1 (upd (Tr.nameF t.L k.1) k.2 (some n.1))) (upd (Tr.placeF t.L) n.1 (some k)) v nx) :
    TreeF w M (Tr.nodeF (t.L ++ [(k, n)])) (Tr.nameF (t.L ++ [(k, n)])) (Tr.placeF (t.L ++ [(k, n)])) v nx := by
  have hf : Tr.byId t.L n.1 = none := by rw [hn]; exact hg.noNext
  have h1 : n.1 ≠ 1 := by have := hg.next; omega
  refine H.to (funext fun i => (Tr.nodeF_put k n h1 hf i).symm) (funext fun d => funext fun s => ?_) (funext fun i => (Tr.placeF_put k n hf i).symm)
  rw [Tr.nameF_put k n hk]
  unfold upd
  obtain ⟨k1, k2⟩ := k
  simp only [Prod.mk.injEq]
  by_cases e1 : d = k1
  · by_cases e2 : s = k2 <;> simp [e1, e2]
  · simp [e1]

theorem Tr.Good.nameF_next {t : Tr.T} (h : Tr.Good t) (s : List UInt8) : Tr.nameF t.L t.next s = none := by
  cases hn : Tr.nameF t.L t.next s with
  | none => rfl
  | some i =>
    have := h.isDir_of_name hn
    have hx := h.next
    rcases Tr.isDir_iff.1 this with q | ⟨_, x, hx2, _⟩
    · omega
    · rw [h.noNext] at hx2; cases hx2

theorem Tr.made_next {t : Tr.T} {k : Key} {kd md : Int} {tg : List UInt8} (hk : Tr.byKey t.L k = none) (hl : t.L.length < 47) : Tr.made t k kd md tg = (0, ⟨t.L ++ [(k, t.next, kd, md, tg)], t.vers, t.next + 1⟩) := by
  unfold Tr.made
  rw [if_neg (by simp [hk]), if_neg (by omega)]

set_option maxRecDepth 100000 in
set_option maxHeartbeats 4000000 in
theorem treeMake_any (w : World) (M : TM) (t : Tr.T) (o : Tr.Op) (kd md : Int) (tg : List UInt8) (e : Int) (t' : Tr.T) (hm : Tr.made t o.key kd md tg = (e, t')) (H : TreeAt w M t) (hg : Tr.Good t') (hd : Tr.isDir t.L o.2.1 = true) (hx : t.next < 4611686018427387904) :
    Calls Tryz.prog 171 #[.pointer (some ⟨M.t, 0, none⟩), vOp o, vNd (0, kd, md, tg)] w (DoPost w M t' e (if e = 0 then [o.key] else [])) := by
  obtain ⟨ok, od, on, ow, oe, om, og⟩ := o
  simp only [Tr.Op.key] at hm hd ⊢
  unfold vOp vNd
  simp only [cOp, txt]
  have hx0 := H.good.next
  have hlen := H.good.len
  have HH := Lib.hid H
  have hlt := H.F.own_lt (.inl rfl)
  have hen := fun V H => treeEntry_any V M t (od, on) H
  have HE := Lib.hid hen
  have hfn := field_neg
  clear hen
  cases hk : Tr.byKey t.L (od, on) with
  | some x =>
    have hm2 : Tr.made t (od, on) kd md tg = (41, t) := by unfold Tr.made; rw [hk]; rfl
    have hnow : Tr.nowE t.L (od, on) = ((od, on), false, x.2) := by unfold Tr.nowE; rw [hk]
    rw [hm2] at hm
    obtain ⟨rfl, rfl⟩ : 41 = e ∧ t = t' := by simpa using hm
    rw [if_neg (by omega)]
    rw [hnow] at HE
    obtain ⟨xk, xi, xd, xm, xt⟩ := x
    clear H hg hd hk hm hm2 hnow
    go_enter Tryz.func171, Tryz.ntmps171
    go_wp2_with fail
    refine (HE.out _ (((HH.out.alloc _).alloc _).alloc _)).mono ?_
    rintro r w1 ⟨rfl, hb1⟩
    have HB := Lib.hid (below_after (below_after (below_after hb1)))
    clear hb1
    simp only [vEn, txt]
    go_wp2_with fail
    refine bodyPost_ret (results2 rfl _ _ _) rfl ?_
    exact DoPost.no HH.out HB.out
  | none =>
    have hnow : Tr.nowE t.L (od, on) = ((od, on), true, Tr.noN) := by unfold Tr.nowE; rw [hk]
    rw [hnow] at HE
    have hcnt := fun V H => treeCount_any V M t H
    have HC := Lib.hid hcnt
    clear hcnt hnow
    by_cases hl : t.L.length < 47
    · rw [Tr.made_next hk hl] at hm
      obtain ⟨rfl, rfl⟩ : 0 = e ∧ _ = t' := by simpa using hm
      rw [if_pos rfl]
      obtain ⟨bd, hbd⟩ := H.ib hd
      have hnn : od ≠ t.next := fun e => by
        rw [e] at hd
        rcases Tr.isDir_iff.1 hd with q | ⟨_, x, hx2, _⟩
        · omega
        · rw [H.good.noNext] at hx2; cases hx2
      have HG := Lib.hid H.good
      have HG2 := Lib.hid hg
      have HBD := Lib.hid hbd
      have HK := Lib.hid hk
      have HD := Lib.hid H.dirs
      have hll : ((t.L.length : Nat) : Int) + 1 < 48 := by omega
      clear hg hd hbd hk hm
      go_enter Tryz.func171, Tryz.ntmps171
      go_wp2_with fail
      refine (HE.out _ (((HH.out.alloc _).alloc _).alloc _)).mono ?_
      rintro r w1 ⟨rfl, hb1⟩
      have AN : At w1 (w.heap.size + 1) 34 [.int .i64 0, .int .i64 kd, .int .i64 md, .string ⟨tg.toArray⟩] := by
        have := (At.new (w.alloc (.cells #[.int .i64 ok, .int .i64 od, .string ⟨on.toArray⟩, .int .i64 ow, .string ⟨oe.toArray⟩, .int .i64 om, .string ⟨og.toArray⟩] 96)) 34 [.int .i64 0, .int .i64 kd, .int .i64 md, .string ⟨tg.toArray⟩])
        rw [World.size_alloc] at this
        exact (this.alloc _).below hb1
      have AK : At w1 (w.heap.size + 2) 32 [.int .i64 od, .string ⟨on.toArray⟩] := by
        have := (At.new ((w.alloc (.cells #[.int .i64 ok, .int .i64 od, .string ⟨on.toArray⟩, .int .i64 ow, .string ⟨oe.toArray⟩, .int .i64 om, .string ⟨og.toArray⟩] 96)).alloc (.cells #[.int .i64 0, .int .i64 kd, .int .i64 md, .string ⟨tg.toArray⟩] 34)) 32 [.int .i64 od, .string ⟨on.toArray⟩])
        rw [World.size_alloc, World.size_alloc] at this
        exact this.below hb1
      have HB := Lib.hid (below_after (below_after (below_after hb1)))
      have H1 := Lib.hid (HH.out.below HB.out)
      have HAN := Lib.hid AN
      have HAK := Lib.hid AK
      clear hb1 AN AK HE
      simp only [vEn, txt, Tr.noN]
      go_wp2_with fail
      refine (HC.out _ H1.out).mono ?_
      rintro r w2 ⟨rfl, rfl⟩
      have c4 := H1.out.F.c4
      have c4f : w1.frozen? ⟨M.t, 4, none⟩ = false := H1.out.F.blk.frozen 4
      have n0 : w1.cell? ⟨w.heap.size + 1, 0, none⟩ = some (.int .i64 0) := HAN.out.cell 0
      have n1 : w1.cell? ⟨w.heap.size + 1, 1, none⟩ = some (.int .i64 kd) := HAN.out.cell 1
      have n2 : w1.cell? ⟨w.heap.size + 1, 2, none⟩ = some (.int .i64 md) := HAN.out.cell 2
      have n3 : w1.cell? ⟨w.heap.size + 1, 3, none⟩ = some (.string ⟨tg.toArray⟩) := HAN.out.cell 3
      have nf : ∀ k, w1.frozen? ⟨w.heap.size + 1, k, none⟩ = false := HAN.out.frozen
      have W1 : TreeF ((w1.setCell ⟨w.heap.size + 1, 0, none⟩ (.int .i64 t.next)).setCell ⟨M.t, 4, none⟩ (.int .i64 (t.next + 1))) M (Tr.nodeF t.L) (Tr.nameF t.L) (Tr.placeF t.L) t.vers (t.next + 1) := by
        refine TreeF.setNx (n := t.next) ?_ _
        exact H1.out.F.kp ((Kp.refl (fun k => k ≠ w.heap.size + 1) w1).setCell (p := ⟨w.heap.size + 1, 0, none⟩) (fun _ q => q rfl) _) fun k hk => by
          have := HH.out.F.own_lt hk
          omega
      have KW : Kp (fun k => ¬ M.own k) w ((w1.setCell ⟨w.heap.size + 1, 0, none⟩ (.int .i64 t.next)).setCell ⟨M.t, 4, none⟩ (.int .i64 (t.next + 1))) :=
        ((Kp.of_below HB.out).setCell (p := ⟨w.heap.size + 1, 0, none⟩) (fun h => absurd h (by simp)) _).setCell (p := ⟨M.t, 4, none⟩) (fun _ q => q (.inl rfl)) _
      have AN1 : At ((w1.setCell ⟨w.heap.size + 1, 0, none⟩ (.int .i64 t.next)).setCell ⟨M.t, 4, none⟩ (.int .i64 (t.next + 1))) (w.heap.size + 1) 34 [.int .i64 t.next, .int .i64 kd, .int .i64 md, .string ⟨tg.toArray⟩] :=
        (HAN.out.setCell 0 _).setOther 4 _ (by omega)
      have AK1 : At ((w1.setCell ⟨w.heap.size + 1, 0, none⟩ (.int .i64 t.next)).setCell ⟨M.t, 4, none⟩ (.int .i64 (t.next + 1))) (w.heap.size + 2) 32 [.int .i64 od, .string ⟨on.toArray⟩] :=
        (HAK.out.setOther 0 _ (by omega)).setOther 4 _ (by omega)
      go_upto_region 8 with fail
      obtain ⟨W, hW⟩ : ∃ W, ((w1.setCell ⟨w.heap.size + 1, 0, none⟩ (.int .i64 t.next)).setCell ⟨M.t, 4, none⟩ (.int .i64 (t.next + 1))) = W := ⟨_, rfl⟩
      rw [hW] at W1 KW AN1 AK1 ⊢
      have hb2 : w.heap.size + 2 < W.heap.size := AK1.lt
      have HW1 := Lib.hid W1
      have HKW := Lib.hid KW
      have HA1 := Lib.hid AN1
      have HA2 := Lib.hid AK1
      clear W1 KW AN1 AK1 hW c4 c4f n0 n1 n2 n3 nf HAN HAK
      have m0 : W.cell? ⟨w.heap.size + 1, 0, none⟩ = some (.int .i64 t.next) := HA1.out.cell 0
      have m1 : W.cell? ⟨w.heap.size + 1, 1, none⟩ = some (.int .i64 kd) := HA1.out.cell 1
      have m2 : W.cell? ⟨w.heap.size + 1, 2, none⟩ = some (.int .i64 md) := HA1.out.cell 2
      have m3 : W.cell? ⟨w.heap.size + 1, 3, none⟩ = some (.string ⟨tg.toArray⟩) := HA1.out.cell 3
      go_wp2_with fail
      refine (treeAdd_any W M _ _ _ _ _ (t.next, kd, md, tg) HW1.out (fun s => HG.out.nameF_next s)).mono ?_
      rintro r w3 ⟨rfl, M3, hM1, hM2, hM3, hM4, F3, K3⟩
      have AK3 := HA2.out.kp K3 (fun q => by have := HH.out.F.own_lt q; omega)
      have AN3 := HA1.out.kp K3 (fun q => by have := HH.out.F.own_lt q; omega)
      have HA3 := Lib.hid AK3
      have HK3 := Lib.hid (HKW.out.trans (K3.mono fun k _ q => q))
      have HF3 := Lib.hid F3
      have HM1 := Lib.hid hM1
      have HM2 := Lib.hid hM2
      have HM3 := Lib.hid hM3
      have HM4 := Lib.hid hM4
      have p0 : w3.cell? ⟨w.heap.size + 2, 0, none⟩ = some (.int .i64 od) := AK3.cell 0
      have p1 : w3.cell? ⟨w.heap.size + 2, 1, none⟩ = some (.string ⟨on.toArray⟩) := AK3.cell 1
      have p2 : w3.cell? ⟨w.heap.size + 1, 0, none⟩ = some (.int .i64 t.next) := AN3.cell 0
      clear AK3 AN3 K3 F3 hM2 hM3 hM4 m0 m1 m2 m3 HA1 HA2 HW1 HKW
      go_wp2_with fail
      refine (hM1 ▸ treePut_any w3 M3 _ _ _ _ _ (od, on) t.next HF3.out bd ((HM2.out od hnn).trans HBD.out)).mono ?_
      rintro r w4 ⟨rfl, F4, K4⟩
      have F5 := TreeF.put_done (od, on) (t.next, kd, md, tg) HG.out rfl HK.out F4
      have T5 : TreeAt w4 M3 ⟨t.L ++ [((od, on), t.next, kd, md, tg)], t.vers, t.next + 1⟩ := by
        refine ⟨F5, fun d => ?_, HG2.out⟩
        rw [Tr.isDir_put (od, on) (t.next, kd, md, tg) (by simp only; omega) HG.out.noNext]
        by_cases e : d = t.next
        · rw [if_pos e, e, HM3.out, HD.out]
          have : Tr.isDir t.L t.next = false := by
            cases hq : Tr.isDir t.L t.next with
            | false => rfl
            | true =>
              rcases Tr.isDir_iff.1 hq with q | ⟨_, x, hx2, _⟩
              · omega
              · rw [HG.out.noNext] at hx2; cases hx2
          rw [this, Bool.or_false]
        · rw [if_neg e, HM2.out d e, HD.out]
      have KF : Kp (fun k => ¬ M.own k) w w4 := HK3.out.join K4 fun k hlt3 q q2 => by
        rcases HM4.out k q2 with q3 | q3
        · exact q q3
        · omega
      have AK4 := HA3.out.kp K4 (fun q => by
        rcases HM4.out _ q with q | q
        · have := HH.out.F.own_lt q; omega
        · omega)
      have z0 : w4.cell? ⟨w.heap.size + 2, 0, none⟩ = some (.int .i64 od) := AK4.cell 0
      have z1 : w4.cell? ⟨w.heap.size + 2, 1, none⟩ = some (.string ⟨on.toArray⟩) := AK4.cell 1
      have HT5 := Lib.hid T5
      have HKF := Lib.hid KF
      clear F4 F5 T5 K4 KF AK4 HA3 HK3 HF3 p0 p1 p2
      go_wp2_with fail
      refine bodyPost_ret (results2 rfl _ _ _) rfl ?_
      have hs4 := HKF.out.size
      refine ⟨_, M3, rfl, one_key w4 (od, on) _ hs4, HT5.out.alloc _, HM1.out, fun k q => ?_, fun k q q2 => ?_, HKF.out.alloc _⟩
      · rcases HM4.out k q with q | q
        · exact .inl q
        · exact .inr (by omega)
      · have := HT5.out.F.own_lt q2
        have q3 : some w4.heap.size = some k := q
        injection q3 with q3
        omega
    · have hm2 : Tr.made t (od, on) kd md tg = (47, t) := by unfold Tr.made; rw [hk, if_neg (by simp), if_pos (by omega)]
      rw [hm2] at hm
      obtain ⟨rfl, rfl⟩ : 47 = e ∧ t = t' := by simpa using hm
      rw [if_neg (by omega)]
      have hll : (48 : Int) ≤ ((t.L.length : Nat) : Int) + 1 := by omega
      clear H hg hd hk hm hm2
      go_enter Tryz.func171, Tryz.ntmps171
      go_wp2_with fail
      refine (HE.out _ (((HH.out.alloc _).alloc _).alloc _)).mono ?_
      rintro r w1 ⟨rfl, hb1⟩
      have HB := Lib.hid (below_after (below_after (below_after hb1)))
      clear hb1
      simp only [vEn, txt, Tr.noN]
      go_wp2_with fail
      refine (HC.out _ (HH.out.below HB.out)).mono ?_
      rintro r w2 ⟨rfl, rfl⟩
      go_wp2_with fail
      refine bodyPost_ret (results2 rfl _ _ _) rfl ?_
      exact DoPost.no HH.out HB.out
end Go.Proofs.YtoacobcbloljkaaGreatDoor

/-! # TreeDo2: The walks of the tree's mutations: plain, create, mkdir, symlink, unlink, rmdir. -/
namespace Go.Proofs.YtoacobcbloljkaaGreatDoor
open Go.RowKit

theorem op_cells {w : World} {g : Nat} {o : Tr.Op} (H : At w g 96 (cOp o)) : w.cell? ⟨g, 0, none⟩ = some (.int .i64 o.1) ∧ w.cell? ⟨g, 1, none⟩ = some (.int .i64 o.2.1) ∧ w.cell? ⟨g, 2, none⟩ = some (.string ⟨o.2.2.1.toArray⟩) ∧ w.cell? ⟨g, 3, none⟩ = some (.int .i64 o.2.2.2.1) ∧
    w.cell? ⟨g, 4, none⟩ = some (.string ⟨o.2.2.2.2.1.toArray⟩) ∧ w.cell? ⟨g, 5, none⟩ = some (.int .i64 o.2.2.2.2.2.1) ∧ w.cell? ⟨g, 6, none⟩ = some (.string ⟨o.2.2.2.2.2.2.toArray⟩) :=
  ⟨H.cell 0, H.cell 1, H.cell 2, H.cell 3, H.cell 4, H.cell 5, H.cell 6⟩

namespace Tr
theorem does_bad {t : T} {o : Op} (h1 : 5 ≤ o.1) (h2 : o.1 ≤ 11) (h : placeE t.L o.2.1 o.2.2.1 ≠ 0) : does t o = (placeE t.L o.2.1 o.2.2.1, t) := by
  unfold does
  rw [if_neg (by omega), if_pos h]

/-- What a name that there must be is. -/
theorem found_cases (t : T) (d : Int) (s : List UInt8) : (placeE t.L d s ≠ 0 ∧ foundR t.L d s = (noN, placeE t.L d s)) ∨ (placeE t.L d s = 0 ∧ byKey t.L (d, s) = none ∧ foundR t.L d s = (noN, 40)) ∨
    (placeE t.L d s = 0 ∧ ∃ x, byKey t.L (d, s) = some x ∧ foundR t.L d s = (x.2, 0)) := by
  unfold foundR lookR
  by_cases h : placeE t.L d s = 0
  · rw [if_neg (by omega)]
    unfold nowE
    cases hb : byKey t.L (d, s) with
    | none => exact .inr (.inl ⟨h, rfl, by simp⟩)
    | some x => exact .inr (.inr ⟨h, x, rfl, by simp⟩)
  · rw [if_pos h]
    exact .inl ⟨h, by simp [noE]⟩
end Tr

set_option maxRecDepth 100000 in
set_option maxHeartbeats 2000000 in
theorem treePlain_any (w : World) (M : TM) (t : Tr.T) (o : Tr.Op) (kd : Int) (e : Int) (t' : Tr.T) (hm : Tr.does t o = (e, t')) (H : TreeAt w M t) (hk : (o.1 = 5 ∧ kd = 2) ∨ (o.1 = 6 ∧ kd = 1)) (hx : t.next < 4611686018427387904) :
    Calls Tryz.prog 170 #[.pointer (some ⟨M.t, 0, none⟩), vOp o, .int .i64 kd] w (DoPost w M t' e (if e = 0 then [o.key] else [])) := by
  have hgd := H.good.does o
  rw [hm] at hgd
  have hmk := fun V H hd (h : Tr.made t o.key kd o.mode [] = (e, t')) => treeMake_any V M t o kd o.mode [] e t' h H hgd hd hx
  have hpl := fun V H => treePlace_any V M t o.2.1 o.2.2.1 H
  have hAt := At.new w 96 (cOp o)
  have hd : Tr.placeE t.L o.2.1 o.2.2.1 = 0 → Tr.isDir t.L o.2.1 = true := fun h => (Tr.placeE_zero h).1
  have hd5 : Tr.placeE t.L o.2.1 o.2.2.1 = 0 → Tr.does t o = if Tr.goodMode o.mode = true then Tr.made t o.key kd o.mode [] else (1, t) := fun h => by
    rcases hk with ⟨h5, rfl⟩ | ⟨h6, rfl⟩
    · rw [Tr.does_5 h h5]
    · rw [Tr.does_6 h h6]
  have hd5t : Tr.placeE t.L o.2.1 o.2.2.1 = 0 → Tr.goodMode o.mode = true → Tr.made t o.key kd o.mode [] = (e, t') := fun h hg => by
    rw [← hm, hd5 h, if_pos hg]
  have hd5f : Tr.placeE t.L o.2.1 o.2.2.1 = 0 → Tr.goodMode o.mode = false → e = 1 ∧ t' = t := fun h hg => by
    rw [hd5 h, if_neg (by rw [hg]; simp)] at hm
    simp only [Prod.mk.injEq] at hm
    exact ⟨hm.1.symm, hm.2.symm⟩
  clear hd5
  have hbad : Tr.placeE t.L o.2.1 o.2.2.1 ≠ 0 → e = Tr.placeE t.L o.2.1 o.2.2.1 ∧ t' = t := fun h => by
    rw [Tr.does_bad (by omega) (by omega) h] at hm
    simp only [Prod.mk.injEq] at hm
    exact ⟨hm.1.symm, hm.2.symm⟩
  obtain ⟨ok, od, on, ow, oe, om, og⟩ := o
  simp only [Tr.Op.mode] at *
  unfold vOp at *
  simp only [cOp, txt, vNd] at *
  generalize Tr.placeE t.L od on = pe at *
  have HH := Lib.hid H
  have HA := Lib.hid hAt
  have HP := Lib.hid hpl
  have HM := Lib.hid hmk
  clear H hAt hpl hmk hm hgd hk
  by_cases hp : pe = 0
  · subst hp
    have HDR := Lib.hid (hd rfl)
    clear hd
    have hgo := goodMode_any om
    cases hgm : Tr.goodMode om with
    | false =>
      obtain ⟨rfl, rfl⟩ := hd5f rfl hgm
      rw [if_neg (by omega)]
      rw [hgm] at hgo
      clear hbad hd5t hd5f hgm
      go_enter Tryz.func170, Tryz.ntmps170
      go_wp2_with fail
      refine (HP.out _ (HH.out.alloc _)).mono ?_
      rintro r w1 ⟨rfl, hb1⟩
      have HB := Lib.hid (below_after hb1)
      obtain ⟨c0, c1, c2, c3, c4, c5, c6⟩ := op_cells (o := (ok, od, on, ow, oe, om, og)) (HA.out.below hb1)
      clear hb1
      go_wp2_with fail
      refine (hgo _).mono ?_
      rintro r w2 ⟨rfl, rfl⟩
      go_wp2_with fail
      refine bodyPost_ret (results2 rfl _ _ _) rfl ?_
      exact DoPost.no HH.out HB.out
    | true =>
      have HD5 := Lib.hid (hd5t rfl hgm)
      rw [hgm] at hgo
      clear hbad hd5t hd5f hgm
      generalize (if e = 0 then [Tr.Op.key (ok, od, on, ow, oe, om, og)] else []) = ks at HM ⊢
      go_enter Tryz.func170, Tryz.ntmps170
      go_wp2_with fail
      refine (HP.out _ (HH.out.alloc _)).mono ?_
      rintro r w1 ⟨rfl, hb1⟩
      have HB := Lib.hid (below_after hb1)
      obtain ⟨c0, c1, c2, c3, c4, c5, c6⟩ := op_cells (o := (ok, od, on, ow, oe, om, og)) (HA.out.below hb1)
      clear hb1
      simp only at c0 c1 c2 c3 c4 c5 c6
      go_wp2_with fail
      refine (hgo _).mono ?_
      rintro r w2 ⟨rfl, rfl⟩
      go_wp2_with fail
      refine (HM.out _ (HH.out.below HB.out) HDR.out HD5.out).mono ?_
      rintro r w3 ⟨kv, M', rfl, hrest⟩
      have HR := Lib.hid hrest
      clear hrest c0 c1 c2 c3 c4 c5 c6
      go_wp2_with fail
      refine bodyPost_ret (results2 rfl _ _ _) rfl ?_
      exact DoPost.base HB.out ⟨kv, M', rfl, HR.out⟩
  · obtain ⟨rfl, rfl⟩ := hbad hp
    rw [if_neg hp]
    have hpb : (e == 0) = false := by simpa using hp
    clear hd hd5t hd5f HM
    go_enter Tryz.func170, Tryz.ntmps170
    go_wp2_with fail
    refine (HP.out _ (HH.out.alloc _)).mono ?_
    rintro r w1 ⟨rfl, hb1⟩
    have HB := Lib.hid (below_after hb1)
    clear hb1
    go_wp2_with fail
    refine bodyPost_ret (results2 rfl _ _ _) rfl ?_
    exact DoPost.no HH.out HB.out

set_option maxRecDepth 100000 in
set_option maxHeartbeats 1000000 in
theorem treeCreate_any (w : World) (M : TM) (t : Tr.T) (o : Tr.Op) (e : Int) (t' : Tr.T) (hm : Tr.does t o = (e, t')) (H : TreeAt w M t) (hk : o.1 = 5) (hx : t.next < 4611686018427387904) :
    Calls Tryz.prog 138 #[.pointer (some ⟨M.t, 0, none⟩), vOp o] w (DoPost w M t' e (if e = 0 then [o.key] else [])) := by
  have hpl := fun V H => treePlain_any V M t o 2 e t' hm H (.inl ⟨hk, rfl⟩) hx
  generalize (if e = 0 then [o.key] else []) = ks at hpl ⊢
  have hAt := At.new w 96 (cOp o)
  obtain ⟨ok, od, on, ow, oe, om, og⟩ := o
  unfold vOp at *
  simp only [cOp, txt] at *
  obtain ⟨c0, c1, c2, c3, c4, c5, c6⟩ := op_cells (o := (ok, od, on, ow, oe, om, og)) hAt
  have HH := Lib.hid H
  have HP := Lib.hid hpl
  clear H hpl hm hk hAt
  go_enter Tryz.func138, Tryz.ntmps138
  go_wp2_with fail
  refine (HP.out _ (HH.out.alloc _)).mono ?_
  rintro r w3 ⟨kv, M', rfl, hrest⟩
  have HR := Lib.hid hrest
  clear hrest c0 c1 c2 c3 c4 c5 c6
  go_wp2_with fail
  refine bodyPost_ret (results2 rfl _ _ _) rfl ?_
  exact DoPost.base ((Below.refl _ _).alloc (Nat.le_refl _) _) ⟨kv, M', rfl, HR.out⟩

set_option maxRecDepth 100000 in
set_option maxHeartbeats 1000000 in
theorem treeMkdir_any (w : World) (M : TM) (t : Tr.T) (o : Tr.Op) (e : Int) (t' : Tr.T) (hm : Tr.does t o = (e, t')) (H : TreeAt w M t) (hk : o.1 = 6) (hx : t.next < 4611686018427387904) :
    Calls Tryz.prog 139 #[.pointer (some ⟨M.t, 0, none⟩), vOp o] w (DoPost w M t' e (if e = 0 then [o.key] else [])) := by
  have hpl := fun V H => treePlain_any V M t o 1 e t' hm H (.inr ⟨hk, rfl⟩) hx
  generalize (if e = 0 then [o.key] else []) = ks at hpl ⊢
  have hAt := At.new w 96 (cOp o)
  obtain ⟨ok, od, on, ow, oe, om, og⟩ := o
  unfold vOp at *
  simp only [cOp, txt] at *
  obtain ⟨c0, c1, c2, c3, c4, c5, c6⟩ := op_cells (o := (ok, od, on, ow, oe, om, og)) hAt
  have HH := Lib.hid H
  have HP := Lib.hid hpl
  clear H hpl hm hk hAt
  go_enter Tryz.func139, Tryz.ntmps139
  go_wp2_with fail
  refine (HP.out _ (HH.out.alloc _)).mono ?_
  rintro r w3 ⟨kv, M', rfl, hrest⟩
  have HR := Lib.hid hrest
  clear hrest c0 c1 c2 c3 c4 c5 c6
  go_wp2_with fail
  refine bodyPost_ret (results2 rfl _ _ _) rfl ?_
  exact DoPost.base ((Below.refl _ _).alloc (Nat.le_refl _) _) ⟨kv, M', rfl, HR.out⟩

set_option maxRecDepth 100000 in
set_option maxHeartbeats 2000000 in
theorem treeSymlink_any (w : World) (M : TM) (t : Tr.T) (o : Tr.Op) (e : Int) (t' : Tr.T) (hm : Tr.does t o = (e, t')) (H : TreeAt w M t) (hk : o.1 = 7) (hx : t.next < 4611686018427387904) :
    Calls Tryz.prog 140 #[.pointer (some ⟨M.t, 0, none⟩), vOp o] w (DoPost w M t' e (if e = 0 then [o.key] else [])) := by
  have hgd := H.good.does o
  rw [hm] at hgd
  have hmk := fun V H hd (h : Tr.made t o.key 3 0 o.target = (e, t')) => treeMake_any V M t o 3 0 o.target e t' h H hgd hd hx
  have hpl := fun V H => treePlace_any V M t o.2.1 o.2.2.1 H
  have htg := fun V => target_text ⟨o.target.toArray⟩ V
  rw [toList_mk] at htg
  have hAt := At.new w 96 (cOp o)
  have hd : Tr.placeE t.L o.2.1 o.2.2.1 = 0 → Tr.isDir t.L o.2.1 = true := fun h => (Tr.placeE_zero h).1
  have hd7t : Tr.placeE t.L o.2.1 o.2.2.1 = 0 → (Nm.targetR o.target).2.2.2 = 0 → Tr.made t o.key 3 0 o.target = (e, t') := fun h h2 => by
    rw [← hm, Tr.does_7 h hk, if_neg (by omega)]
  have hd7f : Tr.placeE t.L o.2.1 o.2.2.1 = 0 → (Nm.targetR o.target).2.2.2 ≠ 0 → e = (Nm.targetR o.target).2.2.2 ∧ t' = t := fun h h2 => by
    rw [Tr.does_7 h hk, if_pos h2] at hm
    simp only [Prod.mk.injEq] at hm
    exact ⟨hm.1.symm, hm.2.symm⟩
  have hbad : Tr.placeE t.L o.2.1 o.2.2.1 ≠ 0 → e = Tr.placeE t.L o.2.1 o.2.2.1 ∧ t' = t := fun h => by
    rw [Tr.does_bad (by omega) (by omega) h] at hm
    simp only [Prod.mk.injEq] at hm
    exact ⟨hm.1.symm, hm.2.symm⟩
  obtain ⟨ok, od, on, ow, oe, om, og⟩ := o
  simp only [Tr.Op.target] at *
  unfold vOp at *
  simp only [cOp, txt, vNd] at *
  generalize Tr.placeE t.L od on = pe at *
  generalize Nm.targetR og = tr at *
  obtain ⟨trs, trb, trd, tre⟩ := tr
  simp only at htg hd7t hd7f
  have HH := Lib.hid H
  have HA := Lib.hid hAt
  have HP := Lib.hid hpl
  have HM := Lib.hid hmk
  have HT := Lib.hid htg
  clear H hAt hpl hmk hm hgd hk htg
  by_cases hp : pe = 0
  · subst hp
    have HDR := Lib.hid (hd rfl)
    clear hd
    by_cases hte : tre = 0
    · subst hte
      have HD7 := Lib.hid (hd7t rfl rfl)
      clear hbad hd7t hd7f
      generalize (if e = 0 then [Tr.Op.key (ok, od, on, ow, oe, om, og)] else []) = ks at HM ⊢
      go_enter Tryz.func140, Tryz.ntmps140
      go_wp2_with fail
      refine (HP.out _ (HH.out.alloc _)).mono ?_
      rintro r w1 ⟨rfl, hb1⟩
      have HB := Lib.hid (below_after hb1)
      have HA1 := Lib.hid (HA.out.below hb1)
      obtain ⟨c0, c1, c2, c3, c4, c5, c6⟩ := op_cells (o := (ok, od, on, ow, oe, om, og)) HA1.out
      clear hb1
      simp only at c0 c1 c2 c3 c4 c5 c6
      go_wp2_with fail
      refine (HT.out _).mono ?_
      rintro r w2 ⟨v2, rfl, hown2, hb2⟩
      have HB2 := Lib.hid (HB.out.trans (hb2.mono HB.out.size))
      clear c0 c1 c2 c3 c4 c5 c6
      obtain ⟨c0, c1, c2, c3, c4, c5, c6⟩ := op_cells (o := (ok, od, on, ow, oe, om, og)) (HA1.out.below hb2)
      simp only at c0 c1 c2 c3 c4 c5 c6
      clear hown2 hb2
      go_wp2_with fail
      refine (HM.out _ (HH.out.below HB2.out) HDR.out HD7.out).mono ?_
      rintro r w3 ⟨kv, M', rfl, hrest⟩
      have HR := Lib.hid hrest
      clear hrest c0 c1 c2 c3 c4 c5 c6
      go_wp2_with fail
      refine bodyPost_ret (results2 rfl _ _ _) rfl ?_
      exact DoPost.base HB2.out ⟨kv, M', rfl, HR.out⟩
    · obtain ⟨rfl, rfl⟩ := hd7f rfl hte
      rw [if_neg hte]
      have hteb : (e == 0) = false := by simpa using hte
      clear hbad HM hd7t hd7f
      go_enter Tryz.func140, Tryz.ntmps140
      go_wp2_with fail
      refine (HP.out _ (HH.out.alloc _)).mono ?_
      rintro r w1 ⟨rfl, hb1⟩
      have HB := Lib.hid (below_after hb1)
      have HA1 := Lib.hid (HA.out.below hb1)
      obtain ⟨c0, c1, c2, c3, c4, c5, c6⟩ := op_cells (o := (ok, od, on, ow, oe, om, og)) HA1.out
      clear hb1
      simp only at c0 c1 c2 c3 c4 c5 c6
      go_wp2_with fail
      refine (HT.out _).mono ?_
      rintro r w2 ⟨v2, rfl, hown2, hb2⟩
      have HB2 := Lib.hid (HB.out.trans (hb2.mono HB.out.size))
      clear c0 c1 c2 c3 c4 c5 c6 hown2 hb2
      go_wp2_with fail
      refine bodyPost_ret (results2 rfl _ _ _) rfl ?_
      exact DoPost.no HH.out HB2.out
  · obtain ⟨rfl, rfl⟩ := hbad hp
    rw [if_neg hp]
    have hpb : (e == 0) = false := by simpa using hp
    clear hd hd7t hd7f HM HT
    go_enter Tryz.func140, Tryz.ntmps140
    go_wp2_with fail
    refine (HP.out _ (HH.out.alloc _)).mono ?_
    rintro r w1 ⟨rfl, hb1⟩
    have HB := Lib.hid (below_after hb1)
    clear hb1
    go_wp2_with fail
    refine bodyPost_ret (results2 rfl _ _ _) rfl ?_
    exact DoPost.no HH.out HB.out
end Go.Proofs.YtoacobcbloljkaaGreatDoor

/-! # TreeDo3: The walks of the tree's mutations: unlink, rmdir, setattr. -/
namespace Go.Proofs.YtoacobcbloljkaaGreatDoor
open Go.RowKit

/-- A node goes, with its name: the tree without its entry. -/
theorem treeGone_any (w : World) (M : TM) (t : Tr.T) (x : Tr.TE) (H : TreeAt w M t) (hx : x ∈ t.L) (hc : x.2.2.1 ≠ 1 ∨ Tr.ofDir t.L x.2.1 = []) :
    Calls Tryz.prog 173 #[.pointer (some ⟨M.t, 0, none⟩), .int .i64 x.2.1] w fun r w' => r = .returned (.tuple #[]) ∧ ∃ M' : TM, M'.t = M.t ∧ (∀ k, M'.own k → M.own k) ∧ (∀ d, d ≠ x.2.1 → M'.ib d = M.ib d) ∧
      TreeAt w' M' ⟨Tr.gone t.L x.1, t.vers, t.next⟩ ∧ Kp (fun j => ¬ M.own j) w w' := by
  obtain ⟨b, hb⟩ := H.ib (H.good.dirs x hx)
  refine (treeRemove_any w M _ _ _ _ _ x.2.1 x.1 H.F (H.good.placeF_mem hx) b hb).mono ?_
  rintro r w' ⟨rfl, F, K⟩
  have hno := H.good.noChild hx hc
  refine ⟨rfl, { M with ib := upd M.ib x.2.1 none }, rfl, fun k q => ?_, fun d hd => upd_other _ _ hd, ⟨F.to ?_ ?_ ?_, fun d => ?_, H.good.gone hx hc⟩, K⟩
  · rcases q with q | q | q | q | ⟨d, q⟩
    · exact .inl q
    · exact .inr (.inl q)
    · exact .inr (.inr (.inl q))
    · exact .inr (.inr (.inr (.inl q)))
    · unfold upd at q
      simp only at q
      split at q
      · cases q
      · exact .inr (.inr (.inr (.inr ⟨d, q⟩)))
  · funext i
    rw [H.good.nodeF_gone hx]
    rfl
  · funext d s
    rw [Tr.nameF_gone]
    unfold upd
    by_cases e : d = x.2.1
    · rw [if_pos e]
      have : Tr.nameF t.L d s = none := by
        cases hq : Tr.nameF t.L d s with
        | none => rfl
        | some i =>
          unfold Tr.nameF at hq
          cases hb2 : Tr.byKey t.L (d, s) with
          | none => rw [hb2] at hq; cases hq
          | some y =>
            obtain ⟨hy, e2⟩ := Tr.byKey_some hb2
            exact absurd (by rw [e2]; exact e) (hno y hy)
      rw [this]
      split <;> rfl
    · rw [if_neg e]
      obtain ⟨⟨k1, k2⟩, n⟩ := x
      simp only [Prod.mk.injEq]
      by_cases e1 : d = k1
      · by_cases e2 : s = k2 <;> simp [e1, e2]
      · simp [e1]
  · funext i
    rw [H.good.placeF_gone hx]
    rfl
  · show (upd M.ib x.2.1 none d).isSome = _
    rw [H.good.isDir_gone hx]
    unfold upd
    split
    · rfl
    · exact H.dirs d

namespace Tr
theorem removed_none {t : T} {k : Key} {d : Bool} (h : byKey t.L k = none) : removed t k d = (40, t) := by unfold removed; rw [h]
theorem removed_some {t : T} {k : Key} {d : Bool} {x : TE} (h : byKey t.L k = some x) : removed t k d = if x.2.2.1 = 1 ∧ d = false then (43, t) else if x.2.2.1 ≠ 1 ∧ d = true then (42, t)
    else if d = true ∧ ofDir t.L x.2.1 ≠ [] then (44, t) else (0, ⟨gone t.L k, t.vers, t.next⟩) := by unfold removed; rw [h]
end Tr

set_option maxRecDepth 100000 in
set_option maxHeartbeats 2000000 in
theorem treeUnlink_any (w : World) (M : TM) (t : Tr.T) (o : Tr.Op) (e : Int) (t' : Tr.T) (hm : Tr.does t o = (e, t')) (H : TreeAt w M t) (hk : o.1 = 8) :
    Calls Tryz.prog 141 #[.pointer (some ⟨M.t, 0, none⟩), vOp o] w (DoPost w M t' e (if e = 0 then [o.key] else [])) := by
  have hfo := fun V H => treeFound_any V M t o.2.1 o.2.2.1 H
  have hAt := At.new w 96 (cOp o)
  have HH := Lib.hid H
  have HA := Lib.hid hAt
  have hkey : o.key = (o.2.1, o.2.2.1) := rfl
  have fin : ∀ (n : Nd) (er : Int), er ≠ 0 → Tr.foundR t.L o.2.1 o.2.2.1 = (n, er) → e = er → t' = t →
      Calls Tryz.prog 141 #[.pointer (some ⟨M.t, 0, none⟩), vOp o] w (DoPost w M t' e (if e = 0 then [o.key] else [])) := by
    rintro ⟨ni, nk, nm, nt⟩ er h0 hf rfl rfl
    rw [if_neg h0]
    rw [hf] at hfo
    have HF := Lib.hid hfo
    have h0b : (e == 0) = false := by simpa using h0
    obtain ⟨ok, od, on, ow, oe, om, og⟩ := o
    clear hfo hf H hAt hm hk hkey
    unfold vOp
    simp only [cOp, txt]
    go_enter Tryz.func141, Tryz.ntmps141
    go_wp2_with fail
    refine (HF.out _ (HH.out.alloc _)).mono ?_
    rintro r w1 ⟨rfl, hb1⟩
    have HB := Lib.hid (below_after hb1)
    clear hb1
    simp only [vNd, txt]
    go_wp2_with fail
    refine bodyPost_ret (results2 rfl _ _ _) rfl ?_
    exact DoPost.no HH.out (HB.out.alloc HB.out.size _)
  rcases Tr.found_cases t o.2.1 o.2.2.1 with ⟨hp, hf⟩ | ⟨hp, hb, hf⟩ | ⟨hp, x, hb, hf⟩
  · rw [Tr.does_bad (by omega) (by omega) hp] at hm
    simp only [Prod.mk.injEq] at hm
    exact fin _ _ hp hf hm.1.symm hm.2.symm
  · rw [Tr.does_8 hp hk, Tr.removed_none (by rw [hkey]; exact hb)] at hm
    simp only [Prod.mk.injEq] at hm
    exact fin _ _ (by omega) hf hm.1.symm hm.2.symm
  · rw [Tr.does_8 hp hk, Tr.removed_some (by rw [hkey]; exact hb)] at hm
    obtain ⟨hx, hxk⟩ := Tr.byKey_some hb
    rw [hf] at hfo
    have HF := Lib.hid hfo
    by_cases h1 : x.2.2.1 = 1
    · rw [if_pos ⟨h1, rfl⟩] at hm
      obtain ⟨rfl, rfl⟩ : 43 = e ∧ t = t' := by simpa using hm
      rw [if_neg (by omega)]
      obtain ⟨xk, ni, nk, nm, nt⟩ := x
      simp only at h1
      subst h1
      obtain ⟨ok, od, on, ow, oe, om, og⟩ := o
      clear hfo hf H hAt hm hk hkey fin hb hx hxk
      unfold vOp
      simp only [cOp, txt]
      go_enter Tryz.func141, Tryz.ntmps141
      go_wp2_with fail
      refine (HF.out _ (HH.out.alloc _)).mono ?_
      rintro r w1 ⟨rfl, hb1⟩
      have HB := Lib.hid (below_after hb1)
      clear hb1
      simp only [vNd, txt]
      go_wp2_with fail
      refine bodyPost_ret (results2 rfl _ _ _) rfl ?_
      exact DoPost.no HH.out (HB.out.alloc HB.out.size _)
    · rw [if_neg (by simp [h1]), if_neg (by simp), if_neg (by simp)] at hm
      obtain ⟨rfl, rfl⟩ : 0 = e ∧ _ = t' := by simpa using hm
      rw [if_pos rfl]
      have hgo := fun V H => treeGone_any V M t x H hx (.inl h1)
      rw [hxk, ← hkey] at hgo
      have HG := Lib.hid hgo
      have h1b : (x.2.2.1 == 1) = false := by simpa using h1
      obtain ⟨xk, ni, nk, nm, nt⟩ := x
      simp only at h1b HG
      obtain ⟨ok, od, on, ow, oe, om, og⟩ := o
      clear hfo hf H hAt hm hk hkey fin hb hx hxk hgo h1
      unfold vOp
      simp only [cOp, txt]
      go_enter Tryz.func141, Tryz.ntmps141
      go_wp2_with fail
      refine (HF.out _ (HH.out.alloc _)).mono ?_
      rintro r w1 ⟨rfl, hb1⟩
      have HB := Lib.hid (below_after hb1)
      have HA1 := Lib.hid (HA.out.below hb1)
      clear hb1
      simp only [vNd, txt]
      go_wp2_with fail
      refine (HG.out _ ((HH.out.below HB.out).alloc _)).mono ?_
      rintro r w2 ⟨rfl, M', hM1, hM2, _, T2, K2⟩
      have A2 := (HA1.out.alloc _).kp K2 (fun q => by have := HH.out.F.own_lt q; omega)
      have z0 : w2.cell? ⟨w.heap.size, 1, none⟩ = some (.int .i64 od) := A2.cell 1
      have z1 : w2.cell? ⟨w.heap.size, 2, none⟩ = some (.string ⟨on.toArray⟩) := A2.cell 2
      have HT := Lib.hid T2
      have HK := Lib.hid (((Kp.of_below (HB.out.alloc HB.out.size _)).trans K2) : Kp (fun k => ¬ M.own k) w w2)
      have HM1 := Lib.hid hM1
      have HM2 := Lib.hid hM2
      clear T2 K2 A2 hM1 hM2
      go_wp2_with fail
      refine bodyPost_ret (results2 rfl _ _ _) rfl ?_
      refine ⟨_, M', rfl, one_key w2 (od, on) _ HK.out.size, HT.out.alloc _, HM1.out, fun k q => .inl (HM2.out k q), fun k q q2 => ?_, HK.out.alloc _⟩
      have := HT.out.F.own_lt q2
      have q3 : some w2.heap.size = some k := q
      injection q3 with q3
      omega

set_option maxRecDepth 100000 in
set_option maxHeartbeats 4000000 in
theorem treeRmdir_any (w : World) (M : TM) (t : Tr.T) (o : Tr.Op) (e : Int) (t' : Tr.T) (hm : Tr.does t o = (e, t')) (H : TreeAt w M t) (hk : o.1 = 9) :
    Calls Tryz.prog 142 #[.pointer (some ⟨M.t, 0, none⟩), vOp o] w (DoPost w M t' e (if e = 0 then [o.key] else [])) := by
  have hfo := fun V H => treeFound_any V M t o.2.1 o.2.2.1 H
  have hAt := At.new w 96 (cOp o)
  have HH := Lib.hid H
  have HA := Lib.hid hAt
  have hkey : o.key = (o.2.1, o.2.2.1) := rfl
  have fin : ∀ (n : Nd) (er : Int), er ≠ 0 → Tr.foundR t.L o.2.1 o.2.2.1 = (n, er) → e = er → t' = t →
      Calls Tryz.prog 142 #[.pointer (some ⟨M.t, 0, none⟩), vOp o] w (DoPost w M t' e (if e = 0 then [o.key] else [])) := by
    rintro ⟨ni, nk, nm, nt⟩ er h0 hf rfl rfl
    rw [if_neg h0]
    rw [hf] at hfo
    have HF := Lib.hid hfo
    have h0b : (e == 0) = false := by simpa using h0
    obtain ⟨ok, od, on, ow, oe, om, og⟩ := o
    clear hfo hf H hAt hm hk hkey
    unfold vOp
    simp only [cOp, txt]
    go_enter Tryz.func142, Tryz.ntmps142
    go_wp2_with fail
    refine (HF.out _ (HH.out.alloc _)).mono ?_
    rintro r w1 ⟨rfl, hb1⟩
    have HB := Lib.hid (below_after hb1)
    clear hb1
    simp only [vNd, txt]
    go_wp2_with fail
    refine bodyPost_ret (results2 rfl _ _ _) rfl ?_
    exact DoPost.no HH.out (HB.out.alloc HB.out.size _)
  rcases Tr.found_cases t o.2.1 o.2.2.1 with ⟨hp, hf⟩ | ⟨hp, hb, hf⟩ | ⟨hp, x, hb, hf⟩
  · rw [Tr.does_bad (by omega) (by omega) hp] at hm
    simp only [Prod.mk.injEq] at hm
    exact fin _ _ hp hf hm.1.symm hm.2.symm
  · rw [Tr.does_9 hp hk, Tr.removed_none (by rw [hkey]; exact hb)] at hm
    simp only [Prod.mk.injEq] at hm
    exact fin _ _ (by omega) hf hm.1.symm hm.2.symm
  · rw [Tr.does_9 hp hk, Tr.removed_some (by rw [hkey]; exact hb), if_neg (by simp)] at hm
    obtain ⟨hx, hxk⟩ := Tr.byKey_some hb
    rw [hf] at hfo
    have HF := Lib.hid hfo
    by_cases h1 : x.2.2.1 = 1
    · rw [if_neg (by simp [h1])] at hm
      have hxd : Tr.isDir t.L x.2.1 = true := by
        refine Tr.isDir_iff.2 (.inr ⟨?_, x, Tr.byId_of H.good.ids hx, h1⟩)
        have := (H.good.lo x hx).1
        omega
      obtain ⟨b, hib⟩ := H.ib hxd
      have hlk : ∀ V, TreeAt V M t → (Instr.lookup 149 (.map (some M.mb)) (.int .i64 x.2.1) false).run Tryz.prog V = .ok (.map (some b)) V := fun V H => by
        have := H.F.lkM x.2.1
        rwa [hib] at this
      have hln : ∀ V, TreeAt V M t → ∀ ty, (Builtin.len_ #[162] ty #[.map (some b)]).run Tryz.prog V = .ok (.int .i64 ((Tr.ofDir t.L x.2.1).length : Nat)) V := fun V H ty => by
        have := (H.F.mi x.2.1 b hib).len (ty := ty) Tryz.underlying162 (Tr.ofDir_names H.good.keys x.2.1) (fun s => Tr.Good.names_mem x.2.1 s)
        rwa [List.length_map] at this
      have HL := Lib.hid hlk
      have HN := Lib.hid hln
      by_cases he : Tr.ofDir t.L x.2.1 = []
      · rw [if_neg (by simp [he])] at hm
        obtain ⟨rfl, rfl⟩ : 0 = e ∧ _ = t' := by simpa using hm
        rw [if_pos rfl]
        have hgo := fun V H => treeGone_any V M t x H hx (.inr he)
        rw [hxk, ← hkey] at hgo
        have HG := Lib.hid hgo
        rw [he] at HN
        obtain ⟨xk, ni, nk, nm, nt⟩ := x
        simp only [List.length_nil] at h1 HG HL HN
        subst h1
        obtain ⟨ok, od, on, ow, oe, om, og⟩ := o
        clear hfo hf H hAt hm hk hkey fin hb hx hxk hgo hlk hln he hib hxd
        unfold vOp
        simp only [cOp, txt]
        go_enter Tryz.func142, Tryz.ntmps142
        go_wp2_with fail
        refine (HF.out _ (HH.out.alloc _)).mono ?_
        rintro r w1 ⟨rfl, hb1⟩
        have HB := Lib.hid (below_after hb1)
        have HA1 := Lib.hid (HA.out.below hb1)
        clear hb1
        simp only [vNd, txt]
        have H1 := Lib.hid ((HH.out.below HB.out).alloc (.cells #[.int .i64 ni, .int .i64 1, .int .i64 nm, .string ⟨nt.toArray⟩] 34))
        have c1 := H1.out.F.c1
        have l1 := HL.out _ H1.out.drew
        have l2 := HN.out _ H1.out.drew
        have hlt := H1.out.F.own_lt (.inl rfl)
        go_wp2_with fail
        go_region
        all_goals
          clear c1 l1 l2
          go_wp2_with fail
          refine (HG.out _ H1.out.drew).mono ?_
          rintro r w2 ⟨rfl, M', hM1, hM2, _, T2, K2⟩
          have A2 := ((HA1.out.alloc _).drew).kp K2 (fun q => by have := HH.out.F.own_lt q; omega)
          have z0 : w2.cell? ⟨w.heap.size, 1, none⟩ = some (.int .i64 od) := A2.cell 1
          have z1 : w2.cell? ⟨w.heap.size, 2, none⟩ = some (.string ⟨on.toArray⟩) := A2.cell 2
          have HT := Lib.hid T2
          have HK := Lib.hid ((((Kp.of_below (HB.out.alloc HB.out.size _)).drew).trans K2) : Kp (fun k => ¬ M.own k) w w2)
          have HM1 := Lib.hid hM1
          have HM2 := Lib.hid hM2
          clear T2 K2 A2 hM1 hM2
          go_wp2_with fail
          refine bodyPost_ret (results2 rfl _ _ _) rfl ?_
          refine ⟨_, M', rfl, one_key w2 (od, on) _ HK.out.size, HT.out.alloc _, HM1.out, fun k q => .inl (HM2.out k q), fun k q q2 => ?_, HK.out.alloc _⟩
          have := HT.out.F.own_lt q2
          have q3 : some w2.heap.size = some k := q
          injection q3 with q3
          omega
      · rw [if_pos ⟨rfl, he⟩] at hm
        obtain ⟨rfl, rfl⟩ : 44 = e ∧ t = t' := by simpa using hm
        rw [if_neg (by omega)]
        have hpos : (0 : Int) < ((Tr.ofDir t.L x.2.1).length : Nat) := by
          have : 0 < (Tr.ofDir t.L x.2.1).length := List.length_pos_iff.2 he
          omega
        obtain ⟨xk, ni, nk, nm, nt⟩ := x
        simp only at h1 HL HN hpos
        subst h1
        generalize (Tr.ofDir t.L ni).length = q at HN hpos
        obtain ⟨ok, od, on, ow, oe, om, og⟩ := o
        clear hfo hf H hAt hm hk hkey fin hb hx hxk hlk hln he hib hxd
        unfold vOp
        simp only [cOp, txt]
        go_enter Tryz.func142, Tryz.ntmps142
        go_wp2_with fail
        refine (HF.out _ (HH.out.alloc _)).mono ?_
        rintro r w1 ⟨rfl, hb1⟩
        have HB := Lib.hid (below_after hb1)
        clear hb1
        simp only [vNd, txt]
        have H1 := Lib.hid ((HH.out.below HB.out).alloc (.cells #[.int .i64 ni, .int .i64 1, .int .i64 nm, .string ⟨nt.toArray⟩] 34))
        have c1 := H1.out.F.c1
        have l1 := HL.out _ H1.out.drew
        have l2 := HN.out _ H1.out.drew
        have hlt := H1.out.F.own_lt (.inl rfl)
        go_wp2_with fail
        go_region
        all_goals
          clear c1 l1 l2
          go_wp2_with fail
          refine bodyPost_ret (results2 rfl _ _ _) rfl ?_
          exact DoPost.no HH.out (below_drew (HB.out.alloc HB.out.size _))
    · rw [if_pos ⟨h1, rfl⟩] at hm
      obtain ⟨rfl, rfl⟩ : 42 = e ∧ t = t' := by simpa using hm
      rw [if_neg (by omega)]
      have h1b : (x.2.2.1 == 1) = false := by simpa using h1
      obtain ⟨xk, ni, nk, nm, nt⟩ := x
      simp only at h1b
      obtain ⟨ok, od, on, ow, oe, om, og⟩ := o
      clear hfo hf H hAt hm hk hkey fin hb hx hxk h1
      unfold vOp
      simp only [cOp, txt]
      go_enter Tryz.func142, Tryz.ntmps142
      go_wp2_with fail
      refine (HF.out _ (HH.out.alloc _)).mono ?_
      rintro r w1 ⟨rfl, hb1⟩
      have HB := Lib.hid (below_after hb1)
      clear hb1
      simp only [vNd, txt]
      go_wp2_with fail
      refine bodyPost_ret (results2 rfl _ _ _) rfl ?_
      exact DoPost.no HH.out (HB.out.alloc HB.out.size _)
end Go.Proofs.YtoacobcbloljkaaGreatDoor

/-! # TreeDo4: The walks of the tree's mutations: setattr; the plain side of rename. -/
namespace Go.Proofs.YtoacobcbloljkaaGreatDoor
open Go.RowKit

/-- The functions of a tree in which x has moved to b. -/
theorem TreeF.move_done {w : World} {M : TM} {t : Tr.T} {v nx : Int} (x : Tr.TE) (b : Key) (hg : Tr.Good t) (hx : x ∈ t.L) (hb : Tr.byKey t.L b = none)
    (H : TreeF w M (Tr.nodeF t.L) (upd (upd (Tr.nameF t.L) x.1.1 (upd (Tr.nameF t.L x.1.1) x.1.2 none)) b.1 (upd (upd (Tr.nameF t.L) x.1.1 (upd (Tr.nameF t.L x.1.1) x.1.2 none) b.1) b.2 (some x.2.1))) (upd (upd (Tr.placeF t.L) x.2.1 none) x.2.1 (some b)) v nx) :
    TreeF w M (Tr.nodeF (Tr.gone t.L x.1 ++ [(b, x.2)])) (Tr.nameF (Tr.gone t.L x.1 ++ [(b, x.2)])) (Tr.placeF (Tr.gone t.L x.1 ++ [(b, x.2)])) v nx := by
  have h1 := (hg.lo x hx).1
  have hfree : Tr.byId (Tr.gone t.L x.1) x.2.1 = none := by rw [Tr.byId_gone hg.keys hg.ids hx, if_pos rfl]
  have hbg : Tr.byKey (Tr.gone t.L x.1) b = none := by
    rw [Tr.byKey_gone]
    split
    · rfl
    · exact hb
  refine H.to (funext fun i => (Tr.nodeF_move (hg.nodeF_gone hx) (by omega) (hg.nodeF_mem hx) hfree b i).symm) (funext fun d => funext fun s => ?_) (funext fun i => ?_)
  · rw [Tr.nameF_put b x.2 hbg, Tr.nameF_gone]
    obtain ⟨⟨k1, k2⟩, n⟩ := x
    obtain ⟨b1, b2⟩ := b
    unfold upd
    simp only [Prod.mk.injEq]
    by_cases e1 : d = b1
    · by_cases e2 : s = b2
      · simp [e1, e2]
      · by_cases e3 : b1 = k1 <;> by_cases e4 : s = k2 <;> simp [e1, e2, e3, e4]
    · by_cases e3 : d = k1
      · have e5 : ¬ k1 = b1 := fun q => e1 (e3.trans q)
        by_cases e4 : s = k2 <;> simp [e3, e4, e5]
      · simp [e1, e3]
  · rw [Tr.placeF_put b x.2 hfree, hg.placeF_gone hx]
    unfold upd
    by_cases e : i = x.2.1 <;> simp [e]

theorem TreeF.isDir_move {t : Tr.T} (x : Tr.TE) (b : Key) (hg : Tr.Good t) (hx : x ∈ t.L) (d : Int) : Tr.isDir (Tr.gone t.L x.1 ++ [(b, x.2)]) d = Tr.isDir t.L d := by
  have h1 := (hg.lo x hx).1
  have hfree : Tr.byId (Tr.gone t.L x.1) x.2.1 = none := by rw [Tr.byId_gone hg.keys hg.ids hx, if_pos rfl]
  unfold Tr.isDir
  rw [Tr.nodeF_move (hg.nodeF_gone hx) (by omega) (hg.nodeF_mem hx) hfree b]

/-- The functions of a tree in which a mode is another one. -/
theorem TreeF.mode_done {w : World} {M : TM} {t : Tr.T} {v nx : Int} (x : Tr.TE) (m : Int) (hg : Tr.Good t) (hx : x ∈ t.L)
    (H : TreeF w M (upd (Tr.nodeF t.L) x.2.1 (some (x.2.1, x.2.2.1, m, x.2.2.2.2))) (Tr.nameF t.L) (Tr.placeF t.L) v nx) :
    TreeF w M (Tr.nodeF (Tr.setMode t.L x.1 m)) (Tr.nameF (Tr.setMode t.L x.1 m)) (Tr.placeF (Tr.setMode t.L x.1 m)) v nx :=
  H.to (funext fun i => (hg.nodeF_setMode hx m i).symm) (funext fun _ => funext fun _ => (Tr.nameF_setMode _ _ _ _ _).symm) (funext fun _ => (Tr.placeF_setMode _ _ _ _).symm)

set_option maxRecDepth 100000 in
set_option maxHeartbeats 4000000 in
theorem treeSetattr_any (w : World) (M : TM) (t : Tr.T) (o : Tr.Op) (e : Int) (t' : Tr.T) (hm : Tr.does t o = (e, t')) (H : TreeAt w M t) (hk : o.1 = 11) :
    Calls Tryz.prog 144 #[.pointer (some ⟨M.t, 0, none⟩), vOp o] w (DoPost w M t' e (if e = 0 then [o.key] else [])) := by
  have hgd := H.good.does o
  rw [hm] at hgd
  have hpl := fun V H => treePlace_any V M t o.2.1 o.2.2.1 H
  have hfo := fun V H => treeFound_any V M t o.2.1 o.2.2.1 H
  have hAt := At.new w 96 (cOp o)
  have HH := Lib.hid H
  have HA := Lib.hid hAt
  have HP := Lib.hid hpl
  have hkey : o.key = (o.2.1, o.2.2.1) := rfl
  by_cases hp : Tr.placeE t.L o.2.1 o.2.2.1 = 0
  · rw [Tr.does_11 hp hk] at hm
    rw [hp] at HP
    cases hgm : Tr.goodMode o.mode with
    | false =>
      rw [if_neg (by rw [hgm]; simp)] at hm
      obtain ⟨rfl, rfl⟩ : 1 = e ∧ t = t' := by simpa using hm
      rw [if_neg (by omega)]
      have hgo := goodMode_any o.mode
      rw [hgm] at hgo
      obtain ⟨ok, od, on, ow, oe, om, og⟩ := o
      simp only [Tr.Op.mode] at hgo
      clear hgd hpl hfo H hAt hm hk hkey hp hgm
      unfold vOp
      simp only [cOp, txt]
      go_enter Tryz.func144, Tryz.ntmps144
      go_wp2_with fail
      refine (HP.out _ (HH.out.alloc _)).mono ?_
      rintro r w1 ⟨rfl, hb1⟩
      have HB := Lib.hid (below_after hb1)
      obtain ⟨c0, c1, c2, c3, c4, c5, c6⟩ := op_cells (o := (ok, od, on, ow, oe, om, og)) (HA.out.below hb1)
      clear hb1
      simp only at c0 c1 c2 c3 c4 c5 c6
      go_wp2_with fail
      refine (hgo _).mono ?_
      rintro r w2 ⟨rfl, rfl⟩
      go_wp2_with fail
      refine bodyPost_ret (results2 rfl _ _ _) rfl ?_
      exact DoPost.no HH.out HB.out
    | true =>
      rw [if_pos hgm] at hm
      have hgo := goodMode_any o.mode
      rw [hgm] at hgo
      rcases Tr.found_cases t o.2.1 o.2.2.1 with ⟨hp2, _⟩ | ⟨_, hb, hf⟩ | ⟨_, x, hb, hf⟩
      · exact absurd hp hp2
      · rw [if_neg (by rw [hkey, hb]; simp)] at hm
        obtain ⟨rfl, rfl⟩ : 40 = e ∧ t = t' := by simpa using hm
        rw [if_neg (by omega)]
        rw [hf] at hfo
        have HF := Lib.hid hfo
        obtain ⟨ok, od, on, ow, oe, om, og⟩ := o
        simp only [Tr.Op.mode] at hgo
        clear hgd hpl hfo H hAt hm hk hkey hp hgm hb hf
        unfold vOp
        simp only [cOp, txt]
        go_enter Tryz.func144, Tryz.ntmps144
        go_wp2_with fail
        refine (HP.out _ (HH.out.alloc _)).mono ?_
        rintro r w1 ⟨rfl, hb1⟩
        have HB := Lib.hid (below_after hb1)
        obtain ⟨c0, c1, c2, c3, c4, c5, c6⟩ := op_cells (o := (ok, od, on, ow, oe, om, og)) (HA.out.below hb1)
        clear hb1
        simp only at c0 c1 c2 c3 c4 c5 c6
        go_wp2_with fail
        refine (hgo _).mono ?_
        rintro r w2 ⟨rfl, rfl⟩
        go_wp2_with fail
        refine (HF.out _ (HH.out.below HB.out)).mono ?_
        rintro r w3 ⟨rfl, hb3⟩
        have HB3 := Lib.hid (HB.out.trans (hb3.mono HB.out.size))
        clear hb3 c0 c1 c2 c3 c4 c5 c6
        simp only [vNd, txt, Tr.noN]
        go_wp2_with fail
        refine bodyPost_ret (results2 rfl _ _ _) rfl ?_
        exact DoPost.no HH.out (HB3.out.alloc HB3.out.size _)
      · rw [if_pos (by rw [hkey, hb]; rfl)] at hm
        obtain ⟨rfl, rfl⟩ : 0 = e ∧ _ = t' := by simpa using hm
        rw [if_pos rfl]
        obtain ⟨hx, hxk⟩ := Tr.byKey_some hb
        rw [hf] at hfo
        have HF := Lib.hid hfo
        have HX := Lib.hid hx
        have HXK := Lib.hid (hxk.trans hkey.symm)
        have HGD := Lib.hid hgd
        obtain ⟨ok, od, on, ow, oe, om, og⟩ := o
        obtain ⟨xk, ni, nk, nm, nt⟩ := x
        simp only [Tr.Op.mode] at hgo
        clear hgd hpl hfo H hAt hm hk hkey hp hgm hb hf hx hxk
        unfold vOp
        simp only [cOp, txt]
        go_enter Tryz.func144, Tryz.ntmps144
        go_wp2_with fail
        refine (HP.out _ (HH.out.alloc _)).mono ?_
        rintro r w1 ⟨rfl, hb1⟩
        have HB := Lib.hid (below_after hb1)
        have HA1 := Lib.hid (HA.out.below hb1)
        obtain ⟨c0, c1, c2, c3, c4, c5, c6⟩ := op_cells (o := (ok, od, on, ow, oe, om, og)) HA1.out
        clear hb1
        simp only at c0 c1 c2 c3 c4 c5 c6
        go_wp2_with fail
        refine (hgo _).mono ?_
        rintro r w2 ⟨rfl, rfl⟩
        go_wp2_with fail
        refine (HF.out _ (HH.out.below HB.out)).mono ?_
        rintro r w3 ⟨rfl, hb3⟩
        have HB3 := Lib.hid (HB.out.trans (hb3.mono HB.out.size))
        have HA3 := Lib.hid (HA1.out.below hb3)
        clear hb3 c0 c1 c2 c3 c4 c5 c6
        obtain ⟨c0, c1, c2, c3, c4, c5, c6⟩ := op_cells (o := (ok, od, on, ow, oe, om, og)) HA3.out
        simp only at c0 c1 c2 c3 c4 c5 c6
        have hlt3 : w.heap.size < w3.heap.size := HA3.out.lt
        have F4 := ((HH.out.F.below HB3.out).alloc (.cells #[.int .i64 ni, .int .i64 nk, .int .i64 om, .string ⟨nt.toArray⟩] 34)).drew
        have f0 := F4.c0
        have hlt := F4.own_lt (.inl rfl)
        obtain ⟨w5, hrun5, hm5, ht5⟩ := F4.mn.update keyK_num Tryz.underlying148 ni (ni, nk, om, nt)
        have F5 := F4.turnN ht5 hm5
        have A5 : At w5 w.heap.size 96 (cOp (ok, od, on, ow, oe, om, og)) := At.grown ((HA3.out.alloc _).drew) ht5.grown (fun q => by
          have := HH.out.F.mn.lt
          injection q with q
          omega)
        have K5 : Kp (fun k => ¬ M.own k) w w5 := mapTurned_kp ((Kp.of_below (HB3.out.alloc HB3.out.size _)).drew) ht5 (fun _ q => q (.inr (.inl rfl)))
        have F6 := TreeF.mode_done (xk, ni, nk, nm, nt) om HH.out.good HX.out F5
        have T6 : TreeAt w5 M ⟨Tr.setMode t.L xk om, t.vers, t.next⟩ := ⟨F6, fun d => by rw [Tr.isDir_setMode]; exact HH.out.dirs d, by rw [show xk = _ from HXK.out]; exact HGD.out⟩
        rw [show xk = _ from HXK.out] at T6
        have z1 : w5.cell? ⟨w.heap.size, 1, none⟩ = some (.int .i64 od) := A5.cell 1
        have z2 : w5.cell? ⟨w.heap.size, 2, none⟩ = some (.string ⟨on.toArray⟩) := A5.cell 2
        have HT := Lib.hid T6
        have HK := Lib.hid K5
        simp only [vI, vNd, txt] at hrun5 ⊢
        clear F4 hm5 ht5 F5 A5 K5 F6 T6
        go_wp2_with fail
        go_region
        all_goals
          clear hrun5 f0
          go_wp2_with fail
          refine bodyPost_ret (results2 rfl _ _ _) rfl ?_
          refine ⟨_, M, rfl, one_key w5 (od, on) _ HK.out.size, HT.out.alloc _, rfl, fun k q => .inl q, fun k q q2 => ?_, HK.out.alloc _⟩
          have := HT.out.F.own_lt q2
          have q3 : some w5.heap.size = some k := q
          injection q3 with q3
          omega
  · rw [Tr.does_bad (by omega) (by omega) hp] at hm
    simp only [Prod.mk.injEq] at hm
    obtain ⟨rfl, rfl⟩ := hm
    rw [if_neg hp]
    have hpb : (Tr.placeE t.L o.2.1 o.2.2.1 == 0) = false := by simpa using hp
    obtain ⟨ok, od, on, ow, oe, om, og⟩ := o
    simp only at HP hpb ⊢
    generalize Tr.placeE t.L od on = pe at HP hpb ⊢
    clear hgd hpl hfo H hAt hk hkey hp
    unfold vOp
    simp only [cOp, txt]
    go_enter Tryz.func144, Tryz.ntmps144
    go_wp2_with fail
    refine (HP.out _ (HH.out.alloc _)).mono ?_
    rintro r w1 ⟨rfl, hb1⟩
    have HB := Lib.hid (below_after hb1)
    clear hb1
    go_wp2_with fail
    refine bodyPost_ret (results2 rfl _ _ _) rfl ?_
    exact DoPost.no HH.out HB.out
end Go.Proofs.YtoacobcbloljkaaGreatDoor

/-! # TreeMap: The walk of mutations: the map of what can be done to a tree. -/
namespace Go.Proofs.YtoacobcbloljkaaGreatDoor
open Go.RowKit

/-- A method of the tree p as a value. -/
def vFn (p : Nat) (f : Nat) : Value := .func (.func f) #[.pointer (some ⟨p, 0, none⟩)] #[]
def mutF (k : Int) : Option Nat := if k = 5 then some 138 else if k = 6 then some 139 else if k = 7 then some 140 else if k = 8 then some 141 else if k = 9 then some 142
  else if k = 10 then some 143 else if k = 11 then some 144 else none

set_option maxRecDepth 100000 in
set_option maxHeartbeats 2000000 in
theorem treeMuts_any (w : World) (p : Nat) :
    Calls Tryz.prog 109 #[.pointer (some ⟨p, 0, none⟩)] w fun r w' => ∃ b, r = .returned (.map (some b)) ∧ MapF vI (vFn p) w' b mutF ∧ Below w.heap.size w w' := by
  have hmm := @run_makeMap Tryz.prog
  have hu : Tryz.prog.underlying 166 = some (.map 3 164) := Tryz.underlying166
  obtain ⟨v1, r1, m1, t1⟩ := (MapF.made vI (vFn p) w).update keyK_num hu 5 138
  obtain ⟨v2, r2, m2, t2⟩ := m1.update keyK_num hu 6 139
  obtain ⟨v3, r3, m3, t3⟩ := m2.update keyK_num hu 7 140
  obtain ⟨v4, r4, m4, t4⟩ := m3.update keyK_num hu 8 141
  obtain ⟨v5, r5, m5, t5⟩ := m4.update keyK_num hu 9 142
  obtain ⟨v6, r6, m6, t6⟩ := m5.update keyK_num hu 10 143
  obtain ⟨v7, r7, m7, t7⟩ := m6.update keyK_num hu 11 144
  have hk : Kp (fun k => k < w.heap.size) w v7 := mapTurned_kp (mapTurned_kp (mapTurned_kp (mapTurned_kp (mapTurned_kp (mapTurned_kp (mapTurned_kp ((Kp.refl _ w).alloc _) t1 (fun h => absurd h (by omega))) t2 (fun h => absurd h (by omega))) t3 (fun h => absurd h (by omega))) t4 (fun h => absurd h (by omega))) t5 (fun h => absurd h (by omega))) t6 (fun h => absurd h (by omega))) t7 (fun h => absurd h (by omega))
  have hm : MapF vI (vFn p) v7 w.heap.size mutF := by
    obtain ⟨l, h1, h2⟩ := m7
    refine ⟨l, h1, fun k => (h2 k).trans ?_⟩
    unfold upd mutF
    by_cases e5 : k = 5
    · subst e5; simp
    by_cases e6 : k = 6
    · subst e6; simp
    by_cases e7 : k = 7
    · subst e7; simp
    by_cases e8 : k = 8
    · subst e8; simp
    by_cases e9 : k = 9
    · subst e9; simp
    by_cases e10 : k = 10
    · subst e10; simp
    by_cases e11 : k = 11
    · subst e11; simp
    simp [e5, e6, e7, e8, e9, e10, e11]
  simp only [vI, vFn] at r1 r2 r3 r4 r5 r6 r7
  have HM := Lib.hid hm
  have HK := Lib.hid hk
  clear m1 m2 m3 m4 m5 m6 m7 t1 t2 t3 t4 t5 t6 t7 hm hk
  go_enter Tryz.func109, Tryz.ntmps109
  go_wp2_with fail
  go_ret
  exact ⟨_, rfl, HM.out, HK.out.to_below (Nat.le_refl _) fun k hk => hk⟩
end Go.Proofs.YtoacobcbloljkaaGreatDoor
