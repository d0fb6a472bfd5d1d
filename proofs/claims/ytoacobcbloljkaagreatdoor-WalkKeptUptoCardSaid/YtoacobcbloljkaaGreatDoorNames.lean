/-
  Several texts in one: Runes, NameWalk, NameCheck.
-/
import Derived.Test.YtoacobcbloljkaaGreatDoorLow
import Derived.Laws.RangeString
import Derived.Laws.RangeAny
import Derived.Test.YtoacobcbloljkaaGreatDoorShelf
import Derived.BigQuiet
import Derived.Deep.QuietTactic
/-! # Runes: A text gone through rune by rune, asked for signs below 128: the same as asking its bytes. No program in it. -/
namespace Go.Proofs.YtoacobcbloljkaaGreatDoor
open Go.RowKit

/-- The place of a number in a list, or -1. -/
def idxI (x : Int) : List Int → Int
  | [] => -1
  | z :: zs => if (x == z) = true then 0 else if idxI x zs = -1 then -1 else idxI x zs + 1

theorem idxI_ge (x : Int) (zs : List Int) : -1 ≤ idxI x zs := by
  induction zs with
  | nil => simp [idxI]
  | cons z zs ih => unfold idxI; split <;> (try split) <;> omega

def memI (x : Int) (zs : List Int) : Bool := zs.any fun z => x == z

theorem memI_iff (x : Int) (zs : List Int) : memI x zs = decide (0 ≤ idxI x zs) := by
  induction zs with
  | nil => rfl
  | cons z zs ih =>
    unfold memI at ih ⊢
    rw [List.any_cons, ih, idxI]
    have := idxI_ge x zs
    by_cases h : (x == z) = true
    · rw [h, if_pos rfl]; rfl
    · have h' : (x == z) = false := by simpa using h
      rw [h', Bool.false_or, if_neg (by simp), decide_eq_decide]
      split <;> omega

def hasFrom (zs : List Int) (s : ByteArray) : Nat → Nat → Bool
  | 0, _ => false
  | f + 1, pos => if pos < s.size then memI (Utf8.decode s pos).1 zs || hasFrom zs s f (pos + (Utf8.decode s pos).2) else false

theorem hasFrom_end (zs : List Int) (s : ByteArray) (f pos : Nat) (h : ¬ pos < s.size) : hasFrom zs s f pos = false := by
  cases f with
  | zero => rfl
  | succ f => simp [hasFrom, h]

theorem decode_width (s : ByteArray) (pos : Nat) (h : pos < s.size) : 1 ≤ (Utf8.decode s pos).2 := by
  by_cases ha : (s[pos]'h).toNat < 128
  · rw [decode_ascii s pos h ha]; exact Nat.le_refl _
  · exact (decode_high s pos h (by omega)).2

theorem get_get (s : ByteArray) (i : Nat) (h : i < s.size) : s.get! i = s.data.toList[i]'(by simpa using h) := by
  have := get_at s i h
  rw [Nat.add_zero] at this
  rw [this]
  simp [ByteArray.getElem_eq_getElem_data]

/-- What a rune takes behind a first byte from 128 on is from 128 on, too. -/
theorem decode_bytes (s : ByteArray) (pos : Nat) (_h : pos < s.size) (ha : 128 ≤ (s.get! (pos + 0)).toNat) :
    pos + (Utf8.decode s pos).2 ≤ s.size ∧ ∀ j, j < (Utf8.decode s pos).2 → 128 ≤ (s.get! (pos + j)).toNat := by
  have hc : ∀ k, (decide (pos + k < s.size) && (s.get! (pos + k)).toNat / 64 == 2) = true → pos + k < s.size ∧ 128 ≤ (s.get! (pos + k)).toNat := by
    intro k hk
    simp only [Bool.and_eq_true, decide_eq_true_eq, beq_iff_eq] at hk
    exact ⟨hk.1, by omega⟩
  have h1 : ∀ j, j < 1 → 128 ≤ (s.get! (pos + j)).toNat := fun j hj => by
    obtain rfl : j = 0 := by omega
    exact ha
  have hone : pos + 1 ≤ s.size ∧ ∀ j, j < 1 → 128 ≤ (s.get! (pos + j)).toNat := ⟨by omega, h1⟩
  unfold Utf8.decode
  dsimp only
  split
  · omega
  · split
    · rename_i h2
      simp only [Bool.and_eq_true] at h2
      have c1 := hc 1 (by simpa using h2.2)
      split
      · refine ⟨by omega, fun j hj => ?_⟩
        match j, hj with
        | 0, _ => exact ha
        | 1, _ => exact c1.2
      · exact hone
    · split
      · rename_i h3
        simp only [Bool.and_eq_true] at h3
        have c1 := hc 1 (by simpa using h3.1.2)
        have c2 := hc 2 (by simpa using h3.2)
        split
        · refine ⟨by omega, fun j hj => ?_⟩
          match j, hj with
          | 0, _ => exact ha
          | 1, _ => exact c1.2
          | 2, _ => exact c2.2
        · exact hone
      · split
        · rename_i h4
          simp only [Bool.and_eq_true] at h4
          have c1 := hc 1 (by simpa using h4.1.1.2)
          have c2 := hc 2 (by simpa using h4.1.2)
          have c3 := hc 3 (by simpa using h4.2)
          split
          · refine ⟨by omega, fun j hj => ?_⟩
            match j, hj with
            | 0, _ => exact ha
            | 1, _ => exact c1.2
            | 2, _ => exact c2.2
            | 3, _ => exact c3.2
          · exact hone
        · exact hone

/-- Has a text a byte of some signs? -/
def hasB (zs : List Int) (l : List UInt8) : Bool := l.any fun b => memI (b.toNat : Int) zs

theorem hasB_drop_one (zs : List Int) (l : List UInt8) (i : Nat) (h : i < l.length) : hasB zs (l.drop i) = (memI (l[i].toNat : Int) zs || hasB zs (l.drop (i + 1))) := by
  unfold hasB
  rw [List.drop_eq_getElem_cons h, List.any_cons]

theorem memI_high (zs : List Int) (hz : ∀ z ∈ zs, z < 128) (x : Int) (hx : 128 ≤ x) : memI x zs = false := by
  unfold memI
  rw [List.any_eq_false]
  intro z hm
  have := hz z hm
  simp; omega

theorem hasB_skip (zs : List Int) (hz : ∀ z ∈ zs, z < 128) (l : List UInt8) (i : Nat) : ∀ k, i + k ≤ l.length → (∀ j (h : i + j < l.length), j < k → 128 ≤ (l[i + j]).toNat) →
    hasB zs (l.drop i) = hasB zs (l.drop (i + k)) := by
  intro k
  induction k with
  | zero => intros; rfl
  | succ k ih =>
    intro hle hb
    rw [ih (by omega) (fun j h hj => hb j h (by omega)), hasB_drop_one zs l (i + k) (by omega), memI_high zs hz _ (by have := hb k (by omega) (by omega); omega), Bool.false_or]
    rfl

theorem hasFrom_bytes (zs : List Int) (hz : ∀ z ∈ zs, z < 128) (s : ByteArray) : ∀ f pos, s.size ≤ pos + f → hasFrom zs s f pos = hasB zs (s.data.toList.drop pos)
  | 0, pos, h => by
    rw [List.drop_eq_nil_of_le (by simpa using h)]; rfl
  | f + 1, pos, h => by
    by_cases hp : pos < s.size
    · have hl : pos < s.data.toList.length := by simpa using hp
      rw [hasFrom, if_pos hp]
      have hw := decode_width s pos hp
      rw [hasFrom_bytes zs hz s f _ (by omega)]
      by_cases ha : (s[pos]'hp).toNat < 128
      · rw [decode_ascii s pos hp ha, hasB_drop_one zs _ _ hl]
        simp [ByteArray.getElem_eq_getElem_data]
      · have hg := get_at s pos hp
        obtain ⟨h1, h2⟩ := decode_bytes s pos hp (by rw [hg]; omega)
        have h3 := (decode_high s pos hp (by omega)).1
        rw [memI_high zs hz _ (by omega), Bool.false_or]
        refine (hasB_skip zs hz _ pos _ (by simpa using h1) fun j hj hlt => ?_).symm
        have := h2 j hlt
        rw [get_get s (pos + j) (by simpa using hj)] at this
        exact this
    · rw [hasFrom, if_neg hp, List.drop_eq_nil_of_le (by simpa using hp)]; rfl

theorem hasB_zero (l : List UInt8) : hasB [0] l = l.contains 0 := by
  unfold hasB memI
  rw [Bool.eq_iff_iff, List.any_eq_true, List.contains_iff_mem]
  constructor
  · rintro ⟨b, hb, h⟩
    simp at h
    have : b = 0 := by rw [← UInt8.toNat_inj]; simp; omega
    subst this; exact hb
  · intro h; exact ⟨0, h, by decide⟩

theorem hasB_two (l : List UInt8) : hasB [0, 47] l = (l.contains 0 || l.contains 47) := by
  unfold hasB memI
  rw [Bool.eq_iff_iff, List.any_eq_true, Bool.or_eq_true, List.contains_iff_mem, List.contains_iff_mem]
  constructor
  · rintro ⟨b, hb, h⟩
    simp at h
    rcases h with h | h
    · have : b = 0 := by rw [← UInt8.toNat_inj]; simp; omega
      subst this; exact .inl hb
    · have : b = 47 := by rw [← UInt8.toNat_inj]; simp; omega
      subst this; exact .inr hb
  · rintro (h | h)
    · exact ⟨0, h, by decide⟩
    · exact ⟨47, h, by decide⟩

end Go.Proofs.YtoacobcbloljkaaGreatDoor

/-! # NameWalk: The walks of layer 2 (name): what each function does, said of the plain answers of NameSpec. -/
namespace Go.Proofs.YtoacobcbloljkaaGreatDoor
open Go.RowKit
open Go.Lib (splitB splitK splitB_all splitB_data countB count_one cellsOf cellsOf_full indexB index indexByte countB_le count)

/-! ## strings.Split at a slash -/

theorem countB_slash (s : ByteArray) : countB s ⟨#[47]⟩ = (Nm.segs s.toList).length - 1 := by
  have h1 := splitB_all ⟨#[47]⟩ (by decide) 0 _ s rfl
  have h2 := congrArg List.length (splitB_data ⟨#[47]⟩ 0 (countB s ⟨#[47]⟩) s)
  rw [List.length_map] at h2
  have h3 : splitK [47] 0 (countB s ⟨#[47]⟩) s.data.toList = Nm.segs s.data.toList := Nm.splitK_segs s.data.toList
  have h4 : splitK (ByteArray.mk #[47]).data.toList 0 (countB s ⟨#[47]⟩) s.data.toList = Nm.segs s.data.toList := h3
  rw [h4] at h2
  rw [ByteArray.toList_eq]
  omega

theorem splitB_slash (s : ByteArray) : (splitB ⟨#[47]⟩ 0 (countB s ⟨#[47]⟩) s).map Value.string = txts (Nm.segs s.toList) := by
  have h3 : splitK [47] 0 (countB s ⟨#[47]⟩) s.data.toList = Nm.segs s.data.toList := Nm.splitK_segs s.data.toList
  have h := splitB_data ⟨#[47]⟩ 0 (countB s ⟨#[47]⟩) s
  have h4 : (splitB ⟨#[47]⟩ 0 (countB s ⟨#[47]⟩) s).map (·.data.toList) = Nm.segs s.data.toList := h.trans h3
  rw [ByteArray.toList_eq, ← h4, txts, List.map_map]
  refine List.map_congr_left fun x _ => ?_
  show Value.string x = txt x.data.toList
  rw [← ByteArray.toList_eq, txt_toList]

theorem index_one_ (l : List UInt8) : indexByte l 47 = index l [47] := by
  induction l with
  | nil => rfl
  | cons b l ih =>
    rw [indexByte, index, ih]
    have e : (b == 47) = List.isPrefixOf [47] (b :: l) := by
      simp only [List.isPrefixOf, Bool.and_true]
      rw [Bool.eq_iff_iff, beq_iff_eq, beq_iff_eq]
      exact eq_comm
    rw [e]

set_option maxHeartbeats 1000000 in
theorem split_slash (s : ByteArray) (w : World) (hs : s.size < 4294967281) :
    Calls Tryz.prog 121 #[.string s, .string ⟨#[47]⟩] w fun e w' =>
      e = .returned (.slice (some ⟨w.heap.size, 0, none⟩) (Nm.segs s.toList).length (Nm.segs s.toList).length) ∧ w.alloc (.cells (txts (Nm.segs s.toList)).toArray 9) = w' := by
  have hne := Nm.segs_ne s.toList
  have hpos : 0 < (Nm.segs s.toList).length := List.length_pos_iff.2 hne
  have hle := countB_le ⟨#[47]⟩ (by decide) s.size s (Nat.le_refl _)
  have hlen := splitB_all ⟨#[47]⟩ (by decide) 0 _ s rfl
  have hC : Calls Tryz.prog 194 #[.string s, .string ⟨#[47]⟩] w fun e w' => e = .returned (.int .i64 (countB s ⟨#[47]⟩)) ∧ w' = w := by
    refine (Any.strings_Count_one { Tryz.lays146 with } s 47 w).mono fun e w' ⟨he, hw⟩ => ⟨?_, hw⟩
    rw [he]
    show _ = Ending.returned (Value.int .i64 ((count s.data.toList [47] : Nat) : Int))
    rw [count_one]
    rfl
  have hI : ∀ (x : ByteArray) (c : Array Value), x.size ≤ s.size → Calls Tryz.prog 195 #[.string x, .string ⟨#[47]⟩] (w.alloc (.cells c 9)) fun e w' =>
      e = .returned (.int .i64 (indexB x ⟨#[47]⟩)) ∧ w' = w.alloc (.cells c 9) := by
    intro x c _
    refine (Any.strings_Index_one { Tryz.lays146 with } x 47 _).mono fun e w' ⟨he, hw⟩ => ⟨?_, hw⟩
    rw [he]
    show _ = Ending.returned (Value.int .i64 (index x.data.toList [47]))
    rw [index_one_]
  have c := Any.strings_genSplit_core (P := Tryz.prog) (ρ := Tryz.lays146_ren) { Tryz.lays146 with } (by kernel_rfl) s ⟨#[47]⟩ 0 (-1) (countB s ⟨#[47]⟩ + 1) w hs (by decide) (Nat.zero_le _) hI hC (by decide) (by decide) (by rw [if_pos (by decide)]; omega)
  rw [Nat.add_sub_cancel, hlen] at c
  have e2 : cellsOf (splitB ⟨#[47]⟩ 0 (countB s ⟨#[47]⟩) s) (countB s ⟨#[47]⟩ + 1) = (txts (Nm.segs s.toList)).toArray := by rw [← splitB_slash, ← hlen]; exact cellsOf_full _
  rw [e2, countB_slash, Nat.sub_add_cancel hpos] at c
  have H := Lib.hid c
  clear c e2 hI hC hlen hle
  clear hpos hne
  go_enter Tryz.func121, Tryz.ntmps121
  go_wp2_with (go_at_call 150; refine (H.out).mono ?_; rintro e w' ⟨rfl, hw⟩; rw [hw])
  go_ret
  exact ⟨rfl, rfl⟩

/-! ## Signs -/

def ints32 (zs : List Int) : List Value := zs.map (Value.int .i32)
theorem ints32_get (zs : List Int) (k : Nat) : (ints32 zs)[k]? = zs[k]?.map (Value.int .i32) := by simp [ints32]

theorem idxI_take (x : Int) (zs : List Int) (k : Nat) (hk : k < zs.length) (h : ∀ j (hj : j < k), (x == zs[j]'(by omega)) = false) (hx : (x == zs[k]) = true) : idxI x zs = k := by
  induction zs generalizing k with
  | nil => simp at hk
  | cons z zs ih =>
    cases k with
    | zero => simp only [List.getElem_cons_zero] at hx; simp [idxI, hx]
    | succ k =>
      have h0 := h 0 (by omega)
      simp only [List.getElem_cons_zero] at h0
      have := ih k (by simpa using hk) (fun j hj => by have := h (j + 1) (by omega); simpa using this) (by simpa using hx)
      rw [idxI, h0, this]
      simp

theorem idxI_none (x : Int) (zs : List Int) (h : ∀ j (hj : j < zs.length), (x == zs[j]) = false) : idxI x zs = -1 := by
  induction zs with
  | nil => rfl
  | cons z zs ih =>
    have h0 := h 0 (by simp)
    simp only [List.getElem_cons_zero] at h0
    have := ih (fun j hj => by have := h (j + 1) (by simpa using hj); simpa using this)
    rw [idxI, h0, this]
    simp

set_option maxHeartbeats 400000 in
theorem index_any (A : Option Addr) (n c : Nat) (zs : List Int) (x : Int) (w : World) (hn : n ≤ 1000) (hr : Rd w 1 A n (ints32 zs)) :
    Calls Tryz.prog 149 #[.slice A n c, .int .i32 x] w fun e w' => e = .returned (.int .i64 (idxI x zs)) ∧ w = w' := by
  have hl : zs.length = n := by have := hr.1; simpa [ints32] using this
  go_enter Tryz.func149, Tryz.ntmps149
  go_wp2
  go_loop [5, 8] (fun _ i => ∃ k : Nat, k ≤ n ∧ i = .int .i64 k ∧ Hid (∀ j (hj : j < zs.length), j < k → (x == zs[j]) = false)) (fun _ i => n - (RowKit.intOf i).toNat)
  case atStart => exact ⟨0, by omega, rfl, fun j _ hj => absurd hj (by omega)⟩
  case round =>
    obtain ⟨k, hk, rfl, hno⟩ := hrel
    by_cases hlt : k < n
    · obtain ⟨ad, u, rfl, _, hu, hc⟩ := hr.at1 hlt
      have hz : zs[k]? = some (zs[k]'(by omega)) := List.getElem?_eq_getElem (by omega)
      rw [ints32_get, hz, Option.map_some] at hu
      injection hu with hu
      subst hu
      have HR := Lib.hid hr
      clear hr
      cases hb : (x == zs[k]'(by omega)) with
      | true =>
        have HB := Lib.hid hb
        go_wp2
        go_ret
        exact ⟨ret_int (idxI_take x zs k (by omega) (fun j hj => hno j (by omega) hj) HB).symm, rfl⟩
      | false =>
        have HB := Lib.hid hb
        go_wp2
        go_round
        case rel =>
          refine ⟨k + 1, by omega, by go_num, fun j hj hjk => ?_⟩
          rcases Nat.lt_succ_iff_lt_or_eq.1 hjk with h | h
          · exact hno j hj h
          · subst h; exact HB
        case measure => simp [RowKit.intOf]; omega
    · go_wp2
      go_ret
      exact ⟨ret_int (idxI_none x zs (fun j hj => hno j hj (by omega))).symm, rfl⟩

set_option maxHeartbeats 400000 in
theorem contains_any (A : Option Addr) (n c : Nat) (zs : List Int) (x : Int) (w : World) (hn : n ≤ 1000) (hr : Rd w 1 A n (ints32 zs)) :
    Calls Tryz.prog 120 #[.slice A n c, .int .i32 x] w fun e w' => e = .returned (.bool (memI x zs)) ∧ w = w' := by
  have H := Lib.hid (index_any A n c zs x w hn hr)
  have HR := Lib.hid hr
  clear hr
  have hm := memI_iff x zs
  generalize memI x zs = m at hm ⊢
  generalize idxI x zs = i at hm H
  have HM := Lib.hid hm
  clear hm
  go_enter Tryz.func120, Tryz.ntmps120
  go_wp2_with (go_at_call 149; refine (H.out).mono ?_; rintro e w' ⟨rfl, rfl⟩)
  go_ret
  exact ⟨ret_bool HM.out.symm, rfl⟩

set_option maxHeartbeats 400000 in
theorem has_any (s : ByteArray) (A : Option Addr) (n c : Nat) (zs : List Int) (w : World) (hn : n ≤ 1000) (hr : Rd w 1 A n (ints32 zs)) (hz : ∀ z ∈ zs, z < 128) :
    Calls Tryz.prog 83 #[.string s, .slice A n c] w fun e w' => e = .returned (.bool (hasB zs s.toList)) ∧ Below w.heap.size w w' := by
  have hfin : hasB zs s.toList = hasFrom zs s s.size 0 := by rw [hasFrom_bytes zs hz s s.size 0 (by omega), List.drop_zero, ByteArray.toList_eq]
  rw [hfin]
  have HR := Lib.hid hr
  clear hr hfin hz
  have hbi : ∀ pos, Below w.heap.size w (w.iter s pos) := fun pos => (Below.refl _ _).alloc (Nat.le_refl _) _
  have HBI := Lib.hid hbi
  clear hbi
  go_enter Tryz.func83, Tryz.ntmps83
  go_wp2
  go_loopw [6] (fun _ w' => ∃ (pos b : Nat), w' = w.iter s pos ∧ Hid (hasFrom zs s b pos = hasFrom zs s s.size 0) ∧ s.size ≤ pos + b) (fun _ w' => s.size - w'.iterPos w.heap.size)
  case atStart => exact ⟨0, s.size, rfl, rfl, by omega⟩
  case round =>
    obtain ⟨pos, b, rfl, hc, hb⟩ := hrel
    by_cases hp : pos < s.size
    · have hnx : ∀ ty, (Instr.next (.pointer (some ⟨w.heap.size, 0, none⟩)) true ty).run Tryz.prog (w.iter s pos) = _ := fun ty => run_next_any w s pos ty hp
      have hcall := fun p => contains_any A n c zs ((Utf8.decode s pos).1 : Int) (w.iter s p) hn (HR.out.below (HBI.out p))
      have H := Lib.hid hcall
      clear hcall
      obtain ⟨b, rfl⟩ : ∃ b', b = b' + 1 := ⟨b - 1, by omega⟩
      have hwd := decode_width s pos hp
      have hstep : hasFrom zs s (b + 1) pos = (memI ((Utf8.decode s pos).1 : Int) zs || hasFrom zs s b (pos + (Utf8.decode s pos).2)) := by rw [hasFrom, if_pos hp]
      cases hm : memI ((Utf8.decode s pos).1 : Int) zs with
      | true =>
        rw [hm, Bool.true_or] at hstep
        rw [hm] at H
        have HS := Lib.hid (hc.symm.trans hstep)
        clear hstep hm hc
        go_wp2_with (go_at_call 120; refine (H.out _).mono ?_; rintro e w' ⟨rfl, rfl⟩)
        go_ret
        exact ⟨ret_bool HS.out.symm, HBI.out _⟩
      | false =>
        rw [hm, Bool.false_or] at hstep
        rw [hm] at H
        have HS := Lib.hid (hstep.symm.trans hc)
        clear hstep hm hc
        go_wp2_with (go_at_call 120; refine (H.out _).mono ?_; rintro e w' ⟨rfl, rfl⟩)
        go_roundw
        case rel => exact ⟨pos + (Utf8.decode s pos).2, b, rfl, HS.out, by omega⟩
        case measure => simp; omega
    · have hnx : ∀ ty, (Instr.next (.pointer (some ⟨w.heap.size, 0, none⟩)) true ty).run Tryz.prog (w.iter s pos) = _ := fun ty => run_next_end w s pos ty hp
      go_wp2
      go_ret
      have hc' := hc.out
      rw [hasFrom_end zs s b pos hp] at hc'
      exact ⟨ret_bool hc', HBI.out _⟩
/-! ## Check -/

set_option maxHeartbeats 400000 in
theorem dots_any (s : ByteArray) (w : World) :
    Calls Tryz.prog 88 #[.string s] w fun e w' => e = .returned (.bool (Nm.dotsB s.toList)) ∧ w = w' := by
  go_enter Tryz.func88, Tryz.ntmps88
  go_wp2
  all_goals
    go_ret
    refine ⟨ret_bool ?_, rfl⟩
    simp [Nm.dotsB, *]

theorem info_str : (Tryz.prog.info? 9).map (fun i => (i.zero, i.size, i.bytes)) = some (some (.string ByteArray.empty), 1, 16) := by kernel_rfl

/-- What the tables say of []string. -/
theorem elemTexts : Elem Tryz.prog 24 9 1 16 := Elem.mk_ Tryz.underlying24 info_str rfl (by decide)

/-- strings.Split at a slash, said of what it holds. -/
theorem split_any (s : ByteArray) (w : World) (hs : s.size < 4294967281) :
    Calls Tryz.prog 121 #[.string s, .string ⟨#[47]⟩] w fun e w' =>
      ∃ A, e = .returned (.slice A (Nm.segs s.toList).length (Nm.segs s.toList).length) ∧ Rd w' 1 A (Nm.segs s.toList).length (txts (Nm.segs s.toList)) ∧ Below w.heap.size w w' := by
  refine (split_slash s w hs).mono fun e w' h => ?_
  obtain ⟨rfl, rfl⟩ := h
  exact ⟨_, rfl, rd_lit w _ _ _ (txts_length _), (Below.refl _ _).alloc (Nat.le_refl _) _⟩

theorem hasPrefix_any (s : ByteArray) (w : World) :
    Calls Tryz.prog 82 #[.string s, .string ⟨#[47]⟩] w fun e w' => e = .returned (.bool (s.toList.head? == some 47)) ∧ w = w' := by
  refine (Any.strings_HasPrefix Tryz.lays99 s ⟨#[47]⟩ w).mono fun e w' h => ⟨h.1.trans (ret_bool ?_), h.2.symm⟩
  rw [ByteArray.toList_eq]
  show List.isPrefixOf [47] s.data.toList = _
  cases s.data.toList with
  | nil => rfl
  | cons c l =>
    simp only [List.isPrefixOf, Bool.and_true, List.head?_cons]
    rw [Bool.eq_iff_iff, beq_iff_eq, beq_iff_eq]
    simp only [Option.some.injEq]
    exact eq_comm

theorem hasSuffix_any (s : ByteArray) (w : World) (hs : s.size ≤ 4294967281) :
    Calls Tryz.prog 122 #[.string s, .string ⟨#[47]⟩] w fun e w' => e = .returned (.bool (Nm.endSlash s.toList)) ∧ w = w' := by
  refine (Any.strings_HasSuffix Tryz.lays100 s ⟨#[47]⟩ w (by omega)).mono fun e w' h => ⟨h.1.trans (ret_bool ?_), h.2.symm⟩
  rw [ByteArray.toList_eq]
  show List.isSuffixOf [47] s.data.toList = Nm.endSlash s.data.toList
  unfold Nm.endSlash
  rw [Bool.eq_iff_iff, beq_iff_eq, List.isSuffixOf_iff_suffix]
  constructor
  · rintro ⟨t, h⟩
    rw [← h, List.getLast?_append]
    rfl
  · intro h
    obtain ⟨l, h⟩ := List.getLast?_eq_some_iff.1 h
    exact ⟨l, h.symm⟩

/-- What cut has collected behind k pieces. -/
def kept (ss : List (List UInt8)) (k : Nat) : List (List UInt8) := (ss.take k).filter fun x => !x.isEmpty
theorem kept_step (ss : List (List UInt8)) (k : Nat) (x : List UInt8) (h : ss[k]? = some x) : kept ss (k + 1) = kept ss k ++ if x.isEmpty then [] else [x] := by
  unfold kept
  obtain ⟨hk, e⟩ := List.getElem?_eq_some_iff.1 h
  rw [List.take_succ_eq_append_getElem hk, List.filter_append, e]
  cases hx : x.isEmpty <;> simp [hx]
theorem kept_le (ss : List (List UInt8)) (k : Nat) : (kept ss k).length ≤ k := Nat.le_trans (List.length_filter_le _ _) (List.length_take_le _ _)

set_option maxHeartbeats 1000000 in
theorem cut_any (s : ByteArray) (w : World) (hs : s.size ≤ 96) :
    Calls Tryz.prog 84 #[.string s] w fun e w' => ∃ v, e = .returned (.tuple #[v, .bool (Nm.cutR s.toList).2.1, .int .i64 (Nm.cutR s.toList).2.2]) ∧
      w'.ownsRow w.heap.size 9 1 v (Nm.cutR s.toList).1.length (txts (Nm.cutR s.toList).1) ∧ Below w.heap.size w w' := by
  obtain ⟨i0, hi, hz0, hz1, hz2⟩ := info_parts info_str
  have hsp := split_any s w (by omega)
  have hlen : (Nm.segs s.toList).length ≤ 97 := Nat.le_trans (Nm.segs_length _) (by rw [← size_toList]; omega)
  generalize hss : Nm.segs s.toList = ss at hsp hlen
  obtain ⟨N, hN⟩ : ∃ N, ss.length = N := ⟨_, rfl⟩
  rw [hN] at hsp hlen
  have HSP := Lib.hid hsp
  have HSS := Lib.hid hss
  have HN := Lib.hid hN
  clear hsp hss hN
  go_enter Tryz.func84, Tryz.ntmps84
  go_wp2_with (go_at_call 121; refine (HSP.out).mono ?_; rintro e w1 ⟨A, rfl, hrd, hb1⟩)
  have HRD := Lib.hid hrd
  clear hrd
  go_loopw [2, 10] (fun st i wr => ∃ k : Nat, k ≤ N ∧ i = .int .i64 k ∧ wr.ownsRow w1.heap.size 9 1 st (kept ss k).length (txts (kept ss k)) ∧ Below w1.heap.size w1 wr ∧ Hid (∀ (x : List UInt8), x ∈ ss.take k → x.length ≤ 12)) (fun _ i _ => N - (RowKit.intOf i).toNat)
  case atStart =>
    exact ⟨0, by omega, rfl, by simpa [kept, txts] using World.ownsRow_nil w1 w1.heap.size 9 1, Below.refl _ _, by simp [Hid]⟩
  case round =>
    obtain ⟨k, hk, rfl, hown, hbr, hsm⟩ := hrel
    have hr := HRD.out.below hbr
    by_cases hlt : k < N
    · obtain ⟨ad, b, rfl, _, hb, hc⟩ := hr.str_at hlt
      clear hr
      have HBK := Lib.hid hb
      clear hb
      by_cases h12 : (12 : Int) < (b.size : Int)
      · have hfin : Nm.cutR s.toList = ([], false, 11) := by
          unfold Nm.cutR
          rw [if_pos]
          rw [Nm.longB_segs, HSS.out, List.any_eq_true]
          exact ⟨b.toList, List.mem_of_getElem? HBK.out, by rw [← size_toList]; simp; omega⟩
        have HF := Lib.hid hfin
        clear hfin
        go_wp2
        refine bodyPost_ret (results_tmp3 rfl _ _ _) rfl ?_
        rw [HF.out]
        exact ⟨_, rfl, World.ownsRow_nil _ _ _ _, hb1.trans (hbr.mono hb1.size)⟩
      · have hsm' : ∀ x ∈ ss.take (k + 1), x.length ≤ 12 := by
          intro x hx
          obtain ⟨hk', ek⟩ := List.getElem?_eq_some_iff.1 HBK.out
          rw [List.take_succ_eq_append_getElem hk', List.mem_append] at hx
          rcases hx with hx | hx
          · exact hsm x hx
          · simp only [List.mem_singleton] at hx
            rw [hx, ek, ← size_toList]; omega
        have hst := kept_step ss k _ HBK.out
        have hkl := kept_le ss k
        cases he : b.toList.isEmpty with
        | true =>
          rw [he, if_pos rfl, List.append_nil] at hst
          have HST := Lib.hid hst
          have HSM := Lib.hid hsm'
          clear hst hsm'
          go_wp2
          go_roundw
          case rel => exact ⟨k + 1, by omega, by go_num, by rw [HST.out]; exact hown, hbr, HSM⟩
          case measure => simp [RowKit.intOf]; omega
        | false =>
          rw [he, if_neg (by simp)] at hst
          have HST := Lib.hid hst
          have HSM := Lib.hid hsm'
          clear hst hsm'
          have hbw := hbr.size
          go_wp2_with (at_builtin; refine wpList_append_own _ rfl (.tmp 19) (.tmp 21) 24 rfl w1.heap.size 9 i0 (.string ByteArray.empty) 1 16 Tryz.underlying24 hi hz0 hz1 hz2 rfl (by decide) _ _ _ rfl (hown.alloc _) ⟨wr.heap.size, 0, none⟩ 1 1 [.string b] rfl rfl ?c1 ?c2 ?c3 ?c4 ?c5 ?_; (case c1 => exact cell_one_new _ _ _); (case c2 => intro u hu; simp only [List.mem_singleton] at hu; subst hu; rfl); (case c3 => unfold maxLen; omega); (case c4 => omega); (case c5 => simp; omega); intro v' w' hown' hg' _)
          go_roundw
          case rel =>
            refine ⟨k + 1, by omega, by go_num, ?_, ?_, HSM⟩
            · rw [HST.out, txts_append, List.length_append]
              simpa [txts, txt_toList] using hown'
            · exact (hbr.alloc hbw _).grown hg' (by simp; omega) (fun j hj => (hown.lt j hj).1)
          case measure => simp [RowKit.intOf]; omega
    · obtain rfl : k = N := by omega
      have hkc : kept ss k = Nm.comps s.toList := by unfold kept Nm.comps; rw [HSS.out, List.take_of_length_le (by rw [HN.out]; omega)]
      have hl : Nm.longB s.toList = false := by
        rw [Nm.longB_segs, HSS.out, List.any_eq_false]
        intro x hx
        have := hsm x (by rw [List.take_of_length_le (by rw [HN.out]; omega)]; exact hx)
        simp; omega
      have hfin : Nm.cutR s.toList = (Nm.comps s.toList, Nm.dirB s.toList, 0) := by unfold Nm.cutR; rw [hl]; rfl
      rw [hkc] at hown
      have hkl : (Nm.comps s.toList).length ≤ 97 := by rw [← hkc]; exact Nat.le_trans (kept_le _ _) hlen
      have hdir : Nm.dirB s.toList = (Nm.endSlash s.toList || Nm.lastDots (Nm.comps s.toList)) := rfl
      have HF := Lib.hid hfin
      clear hfin hl hsm hkc hr
      have hsf := hasSuffix_any s wr (by omega)
      obtain ⟨A', c', rfl⟩ := own_slice hown
      have hrc := Rd.of_own hown
      generalize hcs : Nm.comps s.toList = cs at hown hkl hdir hrc HF
      generalize hdb : Nm.dirB s.toList = db at hdir HF
      clear hcs hdb
      have HOWN := Lib.hid hown
      have hbw : Below w.heap.size w wr := hb1.trans (hbr.mono hb1.size)
      have HB := Lib.hid hbw
      have hb1s := hb1.size
      clear hown hbw hbr hb1 HSP HRD
      cases hE : Nm.endSlash s.toList with
      | true =>
        rw [hE] at hsf
        rw [hE, Bool.true_or] at hdir
        have HD := Lib.hid hdir
        have HSF := Lib.hid hsf
        clear hdir hE hsf hrc
        go_wp2_with (go_at_call 122; refine (HSF.out).mono ?_; rintro e w' ⟨rfl, rfl⟩)
        refine bodyPost_ret (results_tmp3 rfl _ _ _) rfl ?_
        rw [HF.out, HD.out]
        exact ⟨_, rfl, own_base HOWN.out hb1s, HB.out⟩
      | false =>
        rw [hE] at hsf
        rw [hE, Bool.false_or] at hdir
        have HSF := Lib.hid hsf
        clear hE hsf
        by_cases h0 : 0 < cs.length
        · obtain ⟨ad, b, rfl, _, hb, hc⟩ := hrc.str_at (k := cs.length - 1) (by omega)
          have hdt := fun W => dots_any b W
          have hdir' : db = Nm.dotsB b.toList := by
            rw [hdir, Nm.lastDots, List.getLast?_eq_getElem?, hb]
          generalize Nm.dotsB b.toList = dq at hdt hdir'
          have HD := Lib.hid hdir'
          have HDT := Lib.hid hdt
          clear hdir hdir' hdt hb hrc
          go_wp2_with (first | (go_at_call 122; refine (HSF.out).mono ?_; rintro e w' ⟨rfl, rfl⟩) | (go_at_call 88; refine (HDT.out _).mono ?_; rintro e w' ⟨rfl, rfl⟩))
          refine bodyPost_ret (results_tmp3 rfl _ _ _) rfl ?_
          rw [HF.out, HD.out]
          exact ⟨_, rfl, own_base HOWN.out hb1s, HB.out⟩
        · have hdir' : db = false := by
            rw [hdir]
            have : cs = [] := List.eq_nil_of_length_eq_zero (by omega)
            rw [this]; rfl
          have HD := Lib.hid hdir'
          clear hdir hdir' hrc
          go_wp2_with (first | (go_at_call 122; refine (HSF.out).mono ?_; rintro e w' ⟨rfl, rfl⟩))
          refine bodyPost_ret (results_tmp3 rfl _ _ _) rfl ?_
          rw [HF.out, HD.out]
          exact ⟨_, rfl, own_base HOWN.out hb1s, HB.out⟩
/-! ## Split, Target -/

/-- A sign asked for in a text, the signs in a block of the call's own. -/
theorem has_zero (s : ByteArray) (w : World) :
    Calls Tryz.prog 83 #[.string s, .slice (some ⟨w.heap.size, 0, none⟩) 1 1] (w.alloc (.cells #[.int .i32 0] 21)) fun e w' =>
      e = .returned (.bool (s.toList.contains 0)) ∧ Below w.heap.size w w' := by
  have hb : Below w.heap.size w (w.alloc (.cells #[.int .i32 0] 21)) := (Below.refl _ _).alloc (Nat.le_refl _) _
  rw [← hasB_zero]
  exact (has_any s (some ⟨w.heap.size, 0, none⟩) 1 1 [0] (w.alloc (.cells #[.int .i32 0] 21)) (by omega) (rd_lit w _ (ints32 [0]) 1 rfl) (by simp)).mono
    fun e w' h => ⟨h.1, hb.trans (h.2.mono (by simp))⟩

set_option maxHeartbeats 400000 in
theorem split_path (s : ByteArray) (w : World) :
    Calls Tryz.prog 25 #[.string s] w fun e w' => ∃ v, e = .returned (.tuple #[v, .bool (Nm.splitR s.toList).2.1, .int .i64 (Nm.splitR s.toList).2.2]) ∧
      w'.ownsRow w.heap.size 9 1 v (Nm.splitR s.toList).1.length (txts (Nm.splitR s.toList).1) ∧ Below w.heap.size w w' := by
  have hsz := size_toList s
  by_cases h1 : (96 : Int) < s.size
  · have hE : Nm.splitR s.toList = ([], false, 13) := by unfold Nm.splitR; rw [if_pos (by omega)]
    rw [hE]
    clear hE hsz
    go_enter Tryz.func25, Tryz.ntmps25
    go_wp2
    refine bodyPost_ret (results_tmp3 rfl _ _ _) rfl ?_
    exact ⟨_, rfl, World.ownsRow_nil _ _ _ _, Below.refl _ _⟩
  have h1' : ¬ 96 < s.toList.length := by omega
  have h96 : s.size ≤ 96 := by omega
  clear hsz
  have hp := hasPrefix_any s w
  have hz := has_zero s w
  have hc := cut_any s
  cases h2 : (s.toList.head? == some 47) with
  | false =>
    have hE : Nm.splitR s.toList = ([], false, 12) := by
      unfold Nm.splitR; rw [if_neg h1', if_pos (.inl (fun e => by rw [e] at h2; simp at h2))]
    rw [hE]
    rw [h2] at hp
    have HP := Lib.hid hp
    clear hE h2 hp hz hc h1'
    go_enter Tryz.func25, Tryz.ntmps25
    go_wp2_with (go_at_call 82; refine (HP.out).mono ?_; rintro e w' ⟨rfl, rfl⟩)
    refine bodyPost_ret (results_tmp3 rfl _ _ _) rfl ?_
    exact ⟨_, rfl, World.ownsRow_nil _ _ _ _, Below.refl _ _⟩
  | true =>
    rw [h2] at hp
    have h2' : s.toList.head? = some 47 := by simpa using h2
    have HP := Lib.hid hp
    clear hp
    cases h3 : s.toList.contains 0 with
    | true =>
      have hE : Nm.splitR s.toList = ([], false, 12) := by
        unfold Nm.splitR; rw [if_neg h1', if_pos (.inr h3)]
      rw [hE]
      rw [h3] at hz
      have HZ := Lib.hid hz
      clear hE h2 h2' h3 hz hc h1'
      go_enter Tryz.func25, Tryz.ntmps25
      go_wp2_with (first | (go_at_call 82; refine (HP.out).mono ?_; rintro e w' ⟨rfl, rfl⟩) | (go_at_call 83; refine (HZ.out).mono ?_; rintro e w' ⟨rfl, hb2⟩))
      refine bodyPost_ret (results_tmp3 rfl _ _ _) rfl ?_
      exact ⟨_, rfl, World.ownsRow_nil _ _ _ _, hb2⟩
    | false =>
      have hE : Nm.splitR s.toList = Nm.cutR s.toList := by
        unfold Nm.splitR; rw [if_neg h1', if_neg (fun h => h.elim (fun h => h h2') (fun h => by rw [h3] at h; cases h))]
      rw [hE]
      rw [h3] at hz
      have HZ := Lib.hid hz
      have hc' := fun w => hc w (by omega)
      have HC := Lib.hid hc'
      clear hE h2 h2' h3 hz hc h1' hc'
      go_enter Tryz.func25, Tryz.ntmps25
      go_wp2_with (first | (go_at_call 82; refine (HP.out).mono ?_; rintro e w' ⟨rfl, rfl⟩) | (go_at_call 83; refine (HZ.out).mono ?_; rintro e w1 ⟨rfl, hb1⟩) | (go_at_call 84; refine (HC.out _).mono ?_; rintro e w2 ⟨v, rfl, hown, hb2⟩))
      refine bodyPost_ret (results_tmp3 rfl _ _ _) rfl ?_
      exact ⟨_, rfl, own_base hown hb1.size, hb1.trans (hb2.mono hb1.size)⟩

theorem results4 {fn : Func} {t u v x : Tmp} (h : fn.results = #[.tmp t, .tmp u, .tmp v, .tmp x]) (tmps : Array Value) (P : Program) (w : World) :
    (results fn tmps).run P w = .ok (.tuple #[tmps.getD t undef, tmps.getD u undef, tmps.getD v undef, tmps.getD x undef]) w := by simp [results, h]

set_option maxHeartbeats 400000 in
theorem target_text (s : ByteArray) (w : World) :
    Calls Tryz.prog 32 #[.string s] w fun e w' => ∃ v, e = .returned (.tuple #[v, .bool (Nm.targetR s.toList).2.1, .bool (Nm.targetR s.toList).2.2.1, .int .i64 (Nm.targetR s.toList).2.2.2]) ∧
      w'.ownsRow w.heap.size 9 1 v (Nm.targetR s.toList).1.length (txts (Nm.targetR s.toList).1) ∧ Below w.heap.size w w' := by
  have hsz := size_toList s
  by_cases h1 : (96 : Int) < s.size
  · have hE : Nm.targetR s.toList = ([], false, false, 13) := by unfold Nm.targetR; rw [if_pos (by omega)]
    rw [hE]
    clear hE hsz
    go_enter Tryz.func32, Tryz.ntmps32
    go_wp2
    refine bodyPost_ret (results4 rfl _ _ _) rfl ?_
    exact ⟨_, rfl, World.ownsRow_nil _ _ _ _, Below.refl _ _⟩
  have h1' : ¬ 96 < s.toList.length := by omega
  have h96 : s.size ≤ 96 := by omega
  clear hsz
  have hp := hasPrefix_any s
  have hz := has_zero s w
  have hc := cut_any s
  cases h2 : s.toList.isEmpty with
  | true =>
    have hE : Nm.targetR s.toList = ([], false, false, 12) := by
      unfold Nm.targetR; rw [if_neg h1', if_pos (.inl (List.isEmpty_iff.1 h2))]
    rw [hE]
    clear hE hp hz hc h1'
    go_enter Tryz.func32, Tryz.ntmps32
    go_wp2
    refine bodyPost_ret (results4 rfl _ _ _) rfl ?_
    exact ⟨_, rfl, World.ownsRow_nil _ _ _ _, Below.refl _ _⟩
  | false =>
    have h2' : s.toList ≠ [] := fun e => by rw [e] at h2; cases h2
    cases h3 : s.toList.contains 0 with
    | true =>
      have hE : Nm.targetR s.toList = ([], false, false, 12) := by
        unfold Nm.targetR; rw [if_neg h1', if_pos (.inr h3)]
      rw [hE]
      rw [h3] at hz
      have HZ := Lib.hid hz
      clear hE h2' h3 hz hc h1' hp
      go_enter Tryz.func32, Tryz.ntmps32
      go_wp2_with (first | (go_at_call 83; refine (HZ.out).mono ?_; rintro e w' ⟨rfl, hb2⟩))
      refine bodyPost_ret (results4 rfl _ _ _) rfl ?_
      exact ⟨_, rfl, World.ownsRow_nil _ _ _ _, hb2⟩
    | false =>
      have hE : Nm.targetR s.toList = if Nm.longB s.toList then ([], false, false, 11) else (Nm.comps s.toList, s.toList.head? == some 47, Nm.dirB s.toList, 0) := by
        unfold Nm.targetR; rw [if_neg h1', if_neg (fun h => h.elim (fun h => h2' h) (fun h => by rw [h3] at h; cases h))]
      rw [hE]
      rw [h3] at hz
      have hc' := fun w => hc w (by omega)
      have hcE : Nm.cutR s.toList = if Nm.longB s.toList then ([], false, 11) else (Nm.comps s.toList, Nm.dirB s.toList, 0) := rfl
      have HZ := Lib.hid hz
      have HP := Lib.hid hp
      cases h4 : Nm.longB s.toList with
      | true =>
        rw [h4, if_pos rfl] at hcE
        rw [hcE] at hc'
        have HC := Lib.hid hc'
        clear hE h2' h3 hz hc h1' hc' hp hcE h4
        go_enter Tryz.func32, Tryz.ntmps32
        go_wp2_with (first | (go_at_call 82; refine (HP.out _).mono ?_; rintro e w' ⟨rfl, rfl⟩) | (go_at_call 83; refine (HZ.out).mono ?_; rintro e w1 ⟨rfl, hb1⟩) | (go_at_call 84; refine (HC.out _).mono ?_; rintro e w2 ⟨v, rfl, hown, hb2⟩))
        refine bodyPost_ret (results4 rfl _ _ _) rfl ?_
        exact ⟨_, rfl, World.ownsRow_nil _ _ _ _, hb1.trans (hb2.mono hb1.size)⟩
      | false =>
        rw [h4, if_neg (by simp)] at hcE
        rw [hcE] at hc'
        have HC := Lib.hid hc'
        clear hE h2' h3 hz hc h1' hc' hp hcE h4
        go_enter Tryz.func32, Tryz.ntmps32
        go_wp2_with (first | (go_at_call 82; refine (HP.out _).mono ?_; rintro e w' ⟨rfl, rfl⟩) | (go_at_call 83; refine (HZ.out).mono ?_; rintro e w1 ⟨rfl, hb1⟩) | (go_at_call 84; refine (HC.out _).mono ?_; rintro e w2 ⟨v, rfl, hown, hb2⟩))
        refine bodyPost_ret (results4 rfl _ _ _) rfl ?_
        exact ⟨_, rfl, own_base hown hb1.size, hb1.trans (hb2.mono hb1.size)⟩
/-! ## Parent -/

end Go.Proofs.YtoacobcbloljkaaGreatDoor

/-! # NameCheck: The walk of name.Check. -/
namespace Go.Proofs.YtoacobcbloljkaaGreatDoor
open Go.RowKit
open Go.Lib (splitB splitK splitB_all splitB_data countB count_one cellsOf cellsOf_full indexB index indexByte countB_le count)

set_option maxHeartbeats 400000 in
theorem check_any (s : ByteArray) (w : World) :
    Calls Tryz.prog 30 #[.string s] w fun e w' => e = .returned (.int .i64 (Nm.checkE s.toList)) ∧ Below w.heap.size w w' := by
  have hsz := size_toList s
  by_cases h1 : (12 : Int) < s.size
  · have hE : Nm.checkE s.toList = 11 := by unfold Nm.checkE; rw [if_pos (by omega)]
    rw [hE]
    clear hE hsz
    go_enter Tryz.func30, Tryz.ntmps30
    go_wp2
    go_ret
    exact ⟨rfl, Below.refl _ _⟩
  have h1' : ¬ 12 < s.toList.length := by omega
  clear hsz
  cases h2 : s.toList.isEmpty with
  | true =>
    have hE : Nm.checkE s.toList = 10 := by unfold Nm.checkE; rw [if_neg h1', if_pos (.inl (List.isEmpty_iff.1 h2))]
    rw [hE]
    clear hE h1'
    go_enter Tryz.func30, Tryz.ntmps30
    go_wp2
    go_ret
    exact ⟨rfl, Below.refl _ _⟩
  | false =>
    have h2' : s.toList ≠ [] := fun e => by rw [e] at h2; cases h2
    have hd := dots_any s w
    cases h3 : Nm.dotsB s.toList with
    | true =>
      have hE : Nm.checkE s.toList = 10 := by unfold Nm.checkE; rw [if_neg h1', if_pos (.inr (.inl h3))]
      rw [hE]
      rw [h3] at hd
      have HD := Lib.hid hd
      clear hE h1' h2' h3 hd
      go_enter Tryz.func30, Tryz.ntmps30
      go_wp2_with (go_at_call 88; refine (HD.out).mono ?_; rintro e w' ⟨rfl, rfl⟩)
      go_ret
      exact ⟨rfl, Below.refl _ _⟩
    | false =>
      have hh : Calls Tryz.prog 83 #[.string s, .slice (some ⟨w.heap.size, 0, none⟩) 2 2] (w.alloc (.cells #[.int .i32 0, .int .i32 47] 21)) _ :=
        has_any s (some ⟨w.heap.size, 0, none⟩) 2 2 [0, 47] (w.alloc (.cells #[.int .i32 0, .int .i32 47] 21)) (by omega) (rd_lit w _ (ints32 [0, 47]) 2 rfl) (by simp)
      have hb : Below w.heap.size w (w.alloc (.cells #[.int .i32 0, .int .i32 47] 21)) := (Below.refl _ _).alloc (Nat.le_refl _) _
      rw [hasB_two] at hh
      rw [h3] at hd
      have hE : Nm.checkE s.toList = if (s.toList.contains 0 || s.toList.contains 47) = true then 10 else 0 := by
        unfold Nm.checkE
        rw [if_neg h1']
        simp only [h2', h3, false_or, Bool.false_eq_true, Bool.or_eq_true]
      rw [hE]
      have HD := Lib.hid hd
      have HH := Lib.hid hh
      have HB := Lib.hid hb
      clear hE h1' h2' h3 hd hh hb
      cases hc : (s.toList.contains 0 || s.toList.contains 47) with
      | true =>
        rw [hc] at HH
        have HC := Lib.hid hc
        clear hc
        go_enter Tryz.func30, Tryz.ntmps30
        go_wp2_with (first | (go_at_call 88; refine (HD.out).mono ?_; rintro e w' ⟨rfl, rfl⟩) | (go_at_call 83; refine (HH.out).mono ?_; rintro e w' ⟨rfl, hb2⟩))
        go_ret
        exact ⟨rfl, HB.out.trans (hb2.mono (by simp))⟩
      | false =>
        rw [hc] at HH
        have HC := Lib.hid hc
        clear hc
        go_enter Tryz.func30, Tryz.ntmps30
        go_wp2_with (first | (go_at_call 88; refine (HD.out).mono ?_; rintro e w' ⟨rfl, rfl⟩) | (go_at_call 83; refine (HH.out).mono ?_; rintro e w' ⟨rfl, hb2⟩))
        go_ret
        exact ⟨rfl, HB.out.trans (hb2.mono (by simp))⟩
end Go.Proofs.YtoacobcbloljkaaGreatDoor
