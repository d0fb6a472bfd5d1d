/-
  The walk of NameLimits.
-/
import Derived.Test.YtojmibidfoncnaaDoorLaws02
import Derived.Deep.DeepCutAuto
import Derived.Deep.CutBlock
namespace Go.Proofs.YtojmibidfoncnaaDoor
open Go.RowKit

/-- One sign that is neither a slash, nor a point, nor 0. -/
def Sign (cb : ByteArray) (c : UInt8) : Prop := cb.toList = [c] ∧ c ≠ 0 ∧ c ≠ 46 ∧ c ≠ 47
def pathL (k : Nat) : List UInt8 := (List.replicate k [47, 97]).flatten

theorem pathL_succ (k : Nat) : pathL (k + 1) = pathL k ++ [47, 97] := by
  unfold pathL
  rw [List.replicate_succ', List.flatten_append]
  rfl
theorem pathL_len (k : Nat) : (pathL k).length = 2 * k := by
  induction k with
  | zero => rfl
  | succ k ih => rw [pathL_succ, List.length_append, ih]; simp; omega

theorem lim_path : (Nm.splitR (pathL 48)).2.2 = 0 := by decide +kernel
theorem lim_path2 (x : UInt8) : (Nm.splitR (pathL 48 ++ [x])).2.2 = 13 := by
  unfold Nm.splitR; rw [if_pos (by rw [List.length_append, pathL_len]; simp)]
theorem lim_target (x : UInt8) : (Nm.targetR (pathL 48 ++ [x])).2.2.2 = 13 := by
  unfold Nm.targetR; rw [if_pos (by rw [List.length_append, pathL_len]; simp)]
theorem lim_word {c : UInt8} (h0 : c ≠ 0) (h47 : c ≠ 47) : Nm.checkE (List.replicate 12 c) = 0 := by
  unfold Nm.checkE
  rw [if_neg (by simp), if_neg]
  simp only [Nm.dotsB, List.contains_iff_mem, List.mem_replicate]
  simp [h0.symm, h47.symm, List.replicate]
theorem lim_word2 (c : UInt8) : Nm.checkE (List.replicate 12 c ++ [c]) = 11 := by
  unfold Nm.checkE; rw [if_pos (by simp)]
theorem lim_comp {c : UInt8} (h0 : c ≠ 0) (h47 : c ≠ 47) : (Nm.splitR (47 :: List.replicate 12 c ++ [c])).2.2 = 11 := by
  have hr : List.replicate 12 c ++ [c] = List.replicate 13 c := by rw [← List.replicate_succ']
  have hc : Nm.comps (47 :: List.replicate 12 c ++ [c]) = [List.replicate 13 c] := by
    rw [List.cons_append, hr, Nm.comps_slash, Nm.comps_no]
    · simp; exact fun e => h47 e.symm
    · simp
  have hl : Nm.longB (47 :: List.replicate 12 c ++ [c]) = true := by unfold Nm.longB; rw [hc]; simp
  unfold Nm.splitR
  rw [if_neg (by simp), if_neg]
  · unfold Nm.cutR; rw [hl]; rfl
  · rw [List.cons_append, hr]
    simp
    exact fun e => h0 e.symm

def textSize : Value → Nat
  | .string s => s.size
  | _ => 0
set_option maxRecDepth 100000 in
set_option maxHeartbeats 1000000 in
theorem nameLimits_walk (s : ByteArray) (n : Int) (_h1 : -9223372036854775808 ≤ n) (_h2 : n ≤ 9223372036854775807) (w : World) :
    Calls Tryd.prog 9 #[.string s, .int .i64 n] w fun e w' => e = .returned (.bool true) ∧ Below w.heap.size w w' := by
  have h3 := Lib.hid awake02
  go_enter Tryd.func9, Tryd.ntmps9
  go_upto_region 2 with fail
  go_cut [39] (fun v wc => w = wc ∧ ∃ b : Bool, v = .bool b ∧ Hid (b = true → ∃ h : 0 < s.size, (s[0]'h).toNat ≠ 0 ∧ (s[0]'h).toNat ≠ 46 ∧ (s[0]'h).toNat ≠ 47))
  case first =>
    go_wp2_with fail
    all_goals
      go_meet
      case rel =>
        refine ⟨rfl, _, rfl, fun h => ?_⟩
        first
          | exact absurd h (by decide)
          | (simp at h; exact ⟨by assumption, by omega, by omega, by omega⟩)
  case rest =>
    obtain ⟨rfl, b, rfl, hb⟩ := hcut
    go_upto_if 39 with fail
    go_cut [5] (fun v wc => w = wc ∧ ∃ cb : ByteArray, v = .string cb ∧ cb.size ≤ 1 ∧ Hid (∃ c, Sign cb c))
    case first =>
      cases b with
      | false =>
        go_wp2_with fail
        go_meet
        case rel => exact ⟨rfl, _, rfl, by decide, ⟨120, by rw [ByteArray.toList_eq], by decide, by decide, by decide⟩⟩
      | true =>
        obtain ⟨hp, q1, q2, q3⟩ := hb.out rfl
        have hs : (1 : Int) ≤ (s.size : Int) := by omega
        have hsg : ∃ c, Sign (s.extract 0 1) c := by
          refine ⟨s[0]'hp, ?_, ?_, ?_, ?_⟩
          · rw [extract_list, List.drop_zero]
            have := get_list s 0 hp
            cases hl : s.toList with
            | nil => rw [hl] at this; cases this
            | cons c t => rw [hl] at this; simp at this; simp [this]
          · intro e; rw [e] at q1; exact q1 rfl
          · intro e; rw [e] at q2; exact q2 rfl
          · intro e; rw [e] at q3; exact q3 rfl
        have HSG := Lib.hid hsg
        clear hsg q1 q2 q3
        go_wp2_with fail
        go_meet
        case rel => exact ⟨rfl, _, rfl, by obtain ⟨c, hc⟩ := HSG.out; rw [size_toList, hc.1]; simp, HSG⟩
    case rest =>
      obtain ⟨rfl, cb, rfl, hcb, hsg⟩ := hcut
      clear hb
      go_wp2_with fail
      go_loop [6, 7] (fun wd i => ∃ (k : Nat) (wb : ByteArray), k ≤ 12 ∧ i = .int .i64 k ∧ wd = .string wb ∧ wb.size ≤ k ∧ Hid (∀ c, Sign cb c → wb.toList = List.replicate k c)) (fun _ i => 12 - (intOf i).toNat)
      case atStart => exact ⟨0, _, by omega, rfl, rfl, by decide, fun c _ => by rw [ByteArray.toList_eq]; rfl⟩
      case round =>
        obtain ⟨k, wb, hk, rfl, rfl, hws, hwb⟩ := hrel
        by_cases hlt : k < 12
        · have hnext : ∀ c, Sign cb c → (wb ++ cb).toList = List.replicate (k + 1) c := fun c hc => by rw [app_list, hwb c hc, hc.1, List.replicate_succ']
          have HN := Lib.hid hnext
          clear hnext
          go_wp2_with fail
          go_round
          case rel => exact ⟨k + 1, _, by omega, by go_num, rfl, by rw [ByteArray.size_append]; omega, HN⟩
          case measure => simp [intOf] <;> omega
        · obtain rfl : k = 12 := by omega
          go_wp2_with fail
          go_loop [8] (fun p => ∃ (k : Nat) (pb : ByteArray), k ≤ 48 ∧ p = .string pb ∧ Hid (pb.toList = pathL k) ∧ pb.size ≤ 2 * k ∧ 2 * k ≤ pb.size) (fun p => 96 - textSize p)
          case atStart => exact ⟨0, _, by omega, rfl, by rw [ByteArray.toList_eq]; rfl, by decide, by decide⟩
          case round =>
            obtain ⟨k, pb, hk, rfl, hpb, hp1, hp2⟩ := hrel
            by_cases hlt : k < 48
            · have hnext : (pb ++ ⟨#[47, 97]⟩).toList = pathL (k + 1) := by rw [app_list, hpb.out, pathL_succ, ByteArray.toList_eq]
              have HN := Lib.hid hnext
              have ht : (pb.size : Int) < 96 := by omega
              clear hnext
              go_wp2_with fail
              go_round
              case rel => exact ⟨k + 1, _, by omega, rfl, HN, by rw [ByteArray.size_append]; have : (ByteArray.mk #[47, 97]).size = 2 := rfl; omega, by rw [ByteArray.size_append]; have : (ByteArray.mk #[47, 97]).size = 2 := rfl; omega⟩
              case measure => simp [textSize, ByteArray.size_append]; have : (ByteArray.mk #[47, 97]).size = 2 := rfl; omega
            · obtain rfl : k = 48 := by omega
              have ht : ¬ (pb.size : Int) < 96 := by omega
              obtain ⟨c, hc1, hc0, hc46, hc47⟩ := hsg.out
              have hw12 : wb.toList = List.replicate 12 c := hwb c ⟨hc1, hc0, hc46, hc47⟩
              have g1 := fun W => split_path pb W
              have g2 := fun W => split_path (pb ++ ⟨#[47]⟩) W
              have g3 := fun W => split_path (⟨#[47]⟩ ++ wb ++ cb) W
              have g4 := fun W => target_text (pb ++ cb) W
              have g5 := fun W => check_any wb W
              have g6 := fun W => check_any (wb ++ cb) W
              simp only [app_list, hpb.out, hw12, hc1, show (ByteArray.mk #[47]).toList = [47] from by rw [ByteArray.toList_eq]] at g1 g2 g3 g4 g5 g6
              simp only [lim_path, lim_path2, lim_target, lim_word hc0 hc47, lim_word2, show (Nm.splitR ([47] ++ List.replicate 12 c ++ [c])).2.2 = 11 from lim_comp hc0 hc47] at g1 g2 g3 g4 g5 g6
              have G1 := Lib.hid g1
              have G2 := Lib.hid g2
              have G3 := Lib.hid g3
              have G4 := Lib.hid g4
              have G5 := Lib.hid g5
              have G6 := Lib.hid g6
              clear g1 g2 g3 g4 g5 g6 hc1 hc0 hc46 hc47 hw12 hsg hwb hpb
              go_wp2_with fail
              refine (G1.out _).mono ?_
              rintro e w1 ⟨v1, rfl, hown1, hb1⟩
              have HO1 := Lib.hid hown1
              clear hown1
              go_wp2_with fail
              refine (G2.out _).mono ?_
              rintro e w2 ⟨v2, rfl, hown2, hb2⟩
              have HO2 := Lib.hid hown2
              clear hown2
              go_wp2_with fail
              refine (G3.out _).mono ?_
              rintro e w3 ⟨v3, rfl, hown3, hb3⟩
              have HO3 := Lib.hid hown3
              clear hown3
              go_wp2_with fail
              refine (G4.out _).mono ?_
              rintro e w4 ⟨v4, rfl, hown4, hb4⟩
              have HO4 := Lib.hid hown4
              clear hown4
              go_wp2_with fail
              refine (G5.out _).mono ?_
              rintro e w5 ⟨rfl, hb5⟩
              go_wp2_with fail
              refine (G6.out _).mono ?_
              rintro e w6 ⟨rfl, hb6⟩
              go_wp2_with fail
              refine (h3.out _).mono ?_
              rintro e w7 ⟨rfl, hb7⟩
              go_wp2_with fail
              go_ret
              have h12 := hb1.trans (hb2.mono hb1.size)
              have h13 := h12.trans (hb3.mono h12.size)
              have h14 := h13.trans (hb4.mono h13.size)
              have h15 := h14.trans (hb5.mono h14.size)
              have h16 := h15.trans (hb6.mono h15.size)
              exact ⟨rfl, h16.trans (hb7.mono h16.size)⟩
end Go.Proofs.YtojmibidfoncnaaDoor
