/- The reference's archives (r49), walked: part, begins, Name. The reference's archives (r49), walked: Name, bytes. The reference's archives (r49), walked: bytes. The reference's archives (r49), walked: ValidFiles. -/
import Derived.Test.YtfofapggmoibkaaGreatDoorProg
import Derived.Test.YtfofapggmoibkaaGreatDoorFileX
import Derived.Test.YtfofapggmoibkaaGreatDoorObjX
set_option linter.unusedVariables false
set_option linter.unusedSimpArgs false
namespace Go.Proofs.YtfofapggmoibkaaGreatDoor
open Go Go.RowKit

theorem toList_nil (s : ByteArray) : s.toList = [] ↔ s.size = 0 := by
  rw [Go.ByteArray.toList_eq, ← data_len]
  exact List.length_eq_zero_iff.symm
theorem okR_cases (b : Nat) : (okR (b : Int) = true ∧ (97 ≤ b ∧ b ≤ 122 ∨ 48 ≤ b ∧ b ≤ 57 ∨ b = 46 ∨ b = 95 ∨ b = 45)) ∨ (okR (b : Int) = false ∧ (b < 97 ∨ 122 < b) ∧ (b < 48 ∨ 57 < b) ∧ b ≠ 46 ∧ b ≠ 95 ∧ b ≠ 45) := by
  unfold okR dotR
  by_cases h1 : 97 ≤ b ∧ b ≤ 122
  · left; refine ⟨?_, .inl h1⟩
    rw [decide_eq_true (show (97 : Int) ≤ (b : Int) by omega), decide_eq_true (show (b : Int) ≤ 122 by omega)]; rfl
  · by_cases h2 : 48 ≤ b ∧ b ≤ 57
    · left; refine ⟨?_, .inr (.inl h2)⟩
      rw [decide_eq_true (show (48 : Int) ≤ (b : Int) by omega), decide_eq_true (show (b : Int) ≤ 57 by omega)]; simp
    · by_cases h3 : b = 46
      · left; exact ⟨by subst h3; decide, .inr (.inr (.inl h3))⟩
      · by_cases h4 : b = 95
        · left; exact ⟨by subst h4; decide, .inr (.inr (.inr (.inl h4)))⟩
        · by_cases h5 : b = 45
          · left; exact ⟨by subst h5; decide, .inr (.inr (.inr (.inr h5)))⟩
          · right
            refine ⟨?_, by omega, by omega, h3, h4, h5⟩
            rw [Bool.eq_false_iff]
            intro h
            simp only [Bool.or_eq_true, Bool.and_eq_true, decide_eq_true_eq, beq_iff_eq] at h
            omega
theorem all_byt {s : ByteArray} {p : Nat → Bool} : (s.data.toList.all fun b => p b.toNat) = true ↔ ∀ i, i < s.size → p (byt s i) = true := by
  rw [List.all_eq_true]
  constructor
  · intro h i hi
    have hlt : i < s.data.toList.length := by rw [data_len]; exact hi
    have := h _ (List.getElem_mem hlt)
    unfold byt
    rw [List.getD_eq_getElem?_getD, List.getElem?_eq_getElem hlt]; exact this
  · intro h b hb
    obtain ⟨i, hi, rfl⟩ := List.mem_iff_getElem.1 hb
    have := h i (by rw [← data_len]; exact hi)
    unfold byt at this
    rw [List.getD_eq_getElem?_getD, List.getElem?_eq_getElem hi] at this; exact this
set_option maxRecDepth 100000 in
set_option maxHeartbeats 2000000 in
theorem partR_any (s : ByteArray) (w : World) (hs : s.size ≤ 9223372036854775807) : Calls Tryz.prog 123 #[.string s] w fun e w' => e = .returned (.bool (partP s)) ∧ w = w' := by
  by_cases h0 : s.size = 0
  · have hne : s.toList = [] := (toList_nil s).2 h0
    have HN := Hd.mk h0; clear h0
    go_enter Tryz.func123, Tryz.ntmps123
    go_wp2
    go_ret
    exact ⟨congrArg Ending.returned (vbool (by rw [partP, HN.out]; rfl)), rfl⟩
  · have hne : ¬ s.toList = [] := fun e => h0 ((toList_nil s).1 e)
    have hne' : s.toList.isEmpty = false := by simp [hne]
    have hpos : 0 < s.size := by omega
    have hg : (s[0]'hpos).toNat = byt s 0 := byt_get s _ hpos
    have HN : Hd ((s.size == 0) = false) := ⟨by simp [h0]⟩; clear h0
    by_cases h46 : byt s 0 = 46
    · rw [h46] at hg
      have H46 := Hd.mk h46; clear h46
      go_enter Tryz.func123, Tryz.ntmps123
      go_wp2
      go_ret
      exact ⟨congrArg Ending.returned (vbool (by rw [partP, HN.out, H46.out]; rfl)), rfl⟩
    · obtain ⟨b0, hb0⟩ : ∃ b0, byt s 0 = b0 := ⟨_, rfl⟩
      rw [hb0] at hg h46
      have HP : Hd (partP s = s.data.toList.all fun b => okR (b.toNat : Int)) := ⟨by rw [partP, HN.out, hb0, beq_eq_false_iff_ne.2 h46]; rfl⟩
      have hb46 : ((b0 : Int) == 46) = false := by simp; omega
      clear hb0 h46
      go_enter Tryz.func123, Tryz.ntmps123
      go_wp2
      go_loopw [3, 4] (fun i _ wr => ∃ (k : Nat), i = .int .i64 (k : Int) ∧ k ≤ s.size ∧ Hd (∀ j < k, okR (byt s j : Int) = true) ∧ w = wr) (fun i _ _ => s.size - (intOf i).toNat)
      case atStart => exact ⟨0, rfl, by omega, ⟨fun j hj => by omega⟩, rfl⟩
      case round =>
        obtain ⟨k, rfl, hk, hok, rfl⟩ := hrel
        by_cases hlt : k < s.size
        · have hgk : (s[k]'hlt).toNat = byt s k := byt_get s _ hlt
          have hb := byt_lt s k
          obtain ⟨b, hbe⟩ : ∃ b, byt s k = b := ⟨_, rfl⟩
          rw [hbe] at hgk hb
          have HB := Hd.mk hbe; clear hbe
          rcases okR_cases b with ⟨h1, h2⟩ | ⟨h1, h2, h3, h4, h5, h6⟩
          · have HO := Hd.mk h1; clear h1
            have h2' : (97 ≤ b ∧ b ≤ 122) ∨ (48 ≤ b ∧ b ≤ 57) ∨ (46 ≤ b ∧ b ≤ 46) ∨ (95 ≤ b ∧ b ≤ 95) ∨ (45 ≤ b ∧ b ≤ 45) := by omega
            clear h2
            have hn : ∀ m : Nat, (((b : Int) != (m : Int)) = decide (b ≠ m)) := by
              intro m
              by_cases h : b = m
              · subst h; simp
              · have h' : ¬ (b : Int) = (m : Int) := by omega
                simp [h]
                omega
            have n46 := hn 46; have n95 := hn 95; have n45 := hn 45
            clear hn
            simp only [Int.cast_ofNat_Int] at n46 n95 n45
            rcases h2' with h2 | h2 | h2 | h2 | h2
            all_goals
              try rw [decide_eq_true (by omega)] at n46
              try rw [decide_eq_true (by omega)] at n95
              try rw [decide_eq_true (by omega)] at n45
              try rw [decide_eq_false (by omega)] at n46
              try rw [decide_eq_false (by omega)] at n95
              try rw [decide_eq_false (by omega)] at n45
              go_wp2
              go_roundw
              case rel => exact ⟨k + 1, by go_num, by omega, ⟨fun j hj => by
                rcases Nat.lt_or_ge j k with h | h
                · exact hok.out j h
                · obtain rfl : j = k := by omega
                  rw [HB.out]; exact HO.out⟩, by first | rfl | trivial⟩
              case measure => simp only [intOf]; omega
          · have HO : Hd (partP s = false) := ⟨by
              rw [HP.out, Bool.eq_false_iff]
              intro h
              have := (all_byt (p := fun n => okR (n : Int))).1 h k hlt
              rw [HB.out, h1] at this
              cases this⟩
            clear h1
            have n46 : ((b : Int) != 46) = true := by simp; omega
            have n95 : ((b : Int) != 95) = true := by simp; omega
            have n45 : ((b : Int) != 45) = true := by simp; omega
            rcases h2 with h2 | h2 <;> rcases h3 with h3 | h3
            all_goals try omega
            all_goals
              go_wp2
              go_ret
              exact ⟨congrArg Ending.returned (vbool HO.out.symm), rfl⟩
        · obtain rfl : k = s.size := by omega
          have HO : Hd (partP s = true) := ⟨by rw [HP.out]; exact (all_byt (p := fun n => okR (n : Int))).2 hok.out⟩
          go_wp2
          go_ret
          exact ⟨congrArg Ending.returned (vbool HO.out.symm), rfl⟩
def beginsP (s p : ByteArray) : Bool := decide (p.size ≤ s.size) && decide (s.extract 0 p.size = p)
set_option maxRecDepth 100000 in
set_option maxHeartbeats 2000000 in
theorem begins_any (s p : ByteArray) (w : World) (hs : s.size ≤ 9223372036854775807) (hp : p.size ≤ 9223372036854775807) : Calls Tryz.prog 96 #[.string s, .string p] w fun e w' => e = .returned (.bool (beginsP s p)) ∧ w = w' := by
  by_cases h : p.size ≤ s.size
  · have hb : ((s.extract 0 p.size).toList == p.toList) = decide (s.extract 0 p.size = p) := by
      by_cases h : s.extract 0 p.size = p
      · rw [str_t h, decide_eq_true h]
      · rw [str_f h, decide_eq_false h]
    have HB : Hd (beginsP s p = decide (s.extract 0 p.size = p)) := ⟨by rw [beginsP, decide_eq_true h, Bool.true_and]⟩
    go_enter Tryz.func96, Tryz.ntmps96
    go_wp2
    go_ret
    exact ⟨congrArg Ending.returned (vbool HB.out.symm), rfl⟩
  · have HB : Hd (beginsP s p = false) := ⟨by rw [beginsP, decide_eq_false h]; rfl⟩
    go_enter Tryz.func96, Tryz.ntmps96
    go_wp2
    go_ret
    exact ⟨congrArg Ending.returned (vbool HB.out.symm), rfl⟩
end Go.Proofs.YtfofapggmoibkaaGreatDoor
namespace Go.Proofs.YtfofapggmoibkaaGreatDoor
open Go Go.RowKit

theorem cutL_none : ∀ {l : List UInt8}, (∀ b ∈ l, b ≠ 47) → cutL l = [l]
  | [], _ => rfl
  | b :: l, h => by
    rw [cutL, if_neg (h b (by simp)), cutL_none (fun c hc => h c (by simp [hc]))]
theorem cutL_app : ∀ {p r : List UInt8}, (∀ b ∈ p, b ≠ 47) → cutL (p ++ 47 :: r) = p :: cutL r
  | [], r, _ => by rw [List.nil_append, cutL, if_pos rfl]
  | b :: p, r, h => by
    rw [List.cons_append, cutL, if_neg (h b (by simp)), cutL_app (fun c hc => h c (by simp [hc]))]
theorem ext_list (s : ByteArray) (a b : Nat) : (s.extract a b).data.toList = (s.data.toList.drop a).take (b - a) := by
  simp [List.take_drop]
theorem byt_list {s : ByteArray} {i : Nat} (h : i < s.size) : s.data.toList[i]? = some (UInt8.ofNat (byt s i)) := by
  have hlt : i < s.data.toList.length := by rw [data_len]; exact h
  rw [List.getElem?_eq_getElem hlt]
  unfold byt
  rw [List.getD_eq_getElem?_getD, List.getElem?_eq_getElem hlt]
  simp
theorem byt_eq {s : ByteArray} {i : Nat} {b : UInt8} (h : s.data.toList[i]? = some b) : byt s i = b.toNat := by
  unfold byt
  rw [List.getD_eq_getElem?_getD, h]; rfl
/-- the part from f to k bears no slash -/
theorem part_clean {s : ByteArray} {f k : Nat} (h : ∀ j, f ≤ j → j < k → byt s j ≠ 47) : ∀ b ∈ (s.data.toList.drop f).take (k - f), b ≠ 47 := by
  intro b hb e
  subst e
  obtain ⟨i, hi, he⟩ := List.mem_iff_getElem.1 hb
  rw [List.length_take, List.length_drop] at hi
  have h1 : s.data.toList[f + i]? = some 47 := by
    rw [← he, List.getElem_take, List.getElem_drop]
    exact List.getElem?_eq_getElem _
  exact h (f + i) (by omega) (by omega) (byt_eq h1)
theorem cut_end {s : ByteArray} {f : Nat} (hf : f ≤ s.size) (h : ∀ j, f ≤ j → j < s.size → byt s j ≠ 47) : (cutL (s.data.toList.drop f)).all partL = partP (s.extract f s.size) := by
  rw [partP_list, ext_list]
  have e : (s.data.toList.drop f).take (s.size - f) = s.data.toList.drop f := List.take_of_length_le (by rw [List.length_drop, data_len]; omega)
  rw [e, cutL_none (by have := part_clean h; rwa [e] at this)]
  simp
theorem cut_slash {s : ByteArray} {f k : Nat} (hf : f ≤ k) (hk : k < s.size) (h : ∀ j, f ≤ j → j < k → byt s j ≠ 47) (h47 : byt s k = 47) :
    (cutL (s.data.toList.drop f)).all partL = (partP (s.extract f k) && (cutL (s.data.toList.drop (k + 1))).all partL) := by
  rw [partP_list, ext_list]
  have hb : s.data.toList[k]? = some 47 := by rw [byt_list hk, h47]; rfl
  have e : s.data.toList.drop f = (s.data.toList.drop f).take (k - f) ++ 47 :: s.data.toList.drop (k + 1) := by
    have hlt := (List.getElem?_eq_some_iff.1 hb)
    obtain ⟨hl, hv⟩ := hlt
    have h1 : s.data.toList.drop k = 47 :: s.data.toList.drop (k + 1) := by rw [← List.getElem_cons_drop hl, hv]
    rw [← h1]
    have h2 := (List.take_append_drop (k - f) (s.data.toList.drop f)).symm
    rw [List.drop_drop, show f + (k - f) = k by omega] at h2
    exact h2
  have e2 : cutL (s.data.toList.drop f) = (s.data.toList.drop f).take (k - f) :: cutL (s.data.toList.drop (k + 1)) := (congrArg cutL e).trans (cutL_app (part_clean h))
  rw [e2, List.all_cons]
theorem partR_is (s : ByteArray) (b : Bool) (H : Hd (partP s = b)) (w : World) (hs : s.size ≤ 9223372036854775807) : Calls Tryz.prog 123 #[.string s] w fun e w' => e = .returned (.bool b) ∧ w = w' := by
  rw [← H.out]; exact partR_any s w hs
theorem ext_size (s : ByteArray) (a b : Nat) : (s.extract a b).size ≤ s.size := by
  rw [← data_len, ext_list, List.length_take, List.length_drop, data_len]; omega
set_option maxRecDepth 100000 in
set_option maxHeartbeats 2000000 in
theorem nameR_any (s : ByteArray) (w : World) (hs : s.size ≤ 1000000000) : Calls Tryz.prog 95 #[.string s] w fun e w' => e = .returned (.bool (nameP s)) ∧ w = w' := by
  have HN : Hd (nameP s = (decide (s.size ≤ 64) && (cutL s.data.toList).all partL)) := ⟨by rw [nameP_list, nameL, data_len]⟩
  go_enter Tryz.func95, Tryz.ntmps95
  go_wp2
  go_loopw [3, 4] (fun a i wr => ∃ (f k : Nat), a = .int .i64 (f : Int) ∧ i = .int .i64 (k : Int) ∧ f ≤ k ∧ k ≤ s.size + 1 ∧ (k ≤ s.size → Hd ((∀ j, f ≤ j → j < k → byt s j ≠ 47) ∧ (cutL s.data.toList).all partL = (cutL (s.data.toList.drop f)).all partL)) ∧ (s.size < k → Hd ((cutL s.data.toList).all partL = true)) ∧ w = wr) (fun _ i _ => s.size + 1 - (intOf i).toNat)
  case atStart => exact ⟨0, 0, rfl, rfl, by omega, by omega, fun _ => ⟨fun j h1 h2 => by omega, rfl⟩, fun h => by omega, rfl⟩
  case round =>
    obtain ⟨f, k, rfl, rfl, hfk, hk, hin, hout, rfl⟩ := hrel
    by_cases hle : k ≤ s.size
    · obtain ⟨hcl, hall⟩ := (hin hle).out
      clear hin hout
      have hdone : (k = s.size ∨ k < s.size ∧ byt s k = 47) ∨ (k < s.size ∧ byt s k ≠ 47) := by
        by_cases h1 : k = s.size
        · exact .inl (.inl h1)
        · by_cases h2 : byt s k = 47
          · exact .inl (.inr ⟨by omega, h2⟩)
          · exact .inr ⟨by omega, h2⟩
      rcases hdone with hdone | ⟨hlt, hne⟩
      · have hpart : partP (s.extract f k) = false → (cutL s.data.toList).all partL = false := by
          intro h
          rcases hdone with h1 | ⟨h1, h2⟩
          · subst h1; rw [hall, cut_end hfk hcl, h]
          · rw [hall, cut_slash hfk h1 hcl h2, h]; rfl
        have hnext : partP (s.extract f k) = true → (k + 1 ≤ s.size → Hd ((∀ j, k + 1 ≤ j → j < k + 1 → byt s j ≠ 47) ∧ (cutL s.data.toList).all partL = (cutL (s.data.toList.drop (k + 1))).all partL)) ∧ (s.size < k + 1 → Hd ((cutL s.data.toList).all partL = true)) := by
          intro h
          rcases hdone with h1 | ⟨h1, h2⟩
          · subst h1
            exact ⟨fun h => by omega, fun _ => ⟨by rw [hall, cut_end hfk hcl, h]⟩⟩
          · exact ⟨fun _ => ⟨fun j _ _ => by omega, by rw [hall, cut_slash hfk h1 hcl h2, h]; rfl⟩, fun h => by omega⟩
        have HPT := Hd.mk hpart; have HNX := Hd.mk hnext; clear hpart hnext hcl hall
        have hpz := ext_size s f k
        cases hp : partP (s.extract f k) with
        | false =>
          have HP := Hd.mk hp; clear hp
          rcases hdone with h1 | ⟨h1, h2⟩
          · have hb : ((k : Int) == (s.size : Int)) = true := by simp; omega
            clear h1
            go_wp2_with fail
            refine (partR_is _ false HP _ (by omega)).mono ?_; rintro e _ ⟨rfl, rfl⟩
            go_wp2
            go_ret
            exact ⟨congrArg Ending.returned (vbool (by rw [HN.out, HPT.out HP.out, Bool.and_false])), rfl⟩
          · have hb : ((k : Int) == (s.size : Int)) = false := by simp; omega
            have hg : (s[k]'h1).toNat = 47 := by rw [byt_get]; exact h2
            have H2 := Hd.mk h2; clear h2
            go_wp2_with fail
            refine (partR_is _ false HP _ (by omega)).mono ?_; rintro e _ ⟨rfl, rfl⟩
            go_wp2
            go_ret
            exact ⟨congrArg Ending.returned (vbool (by rw [HN.out, HPT.out HP.out, Bool.and_false])), rfl⟩
        | true =>
          have HP := Hd.mk hp; clear hp
          obtain ⟨n1, n2⟩ := HNX.out HP.out
          have N1 := Hd.mk n1; have N2 := Hd.mk n2; clear n1 n2
          rcases hdone with h1 | ⟨h1, h2⟩
          · have hb : ((k : Int) == (s.size : Int)) = true := by simp; omega
            clear h1
            go_wp2_with fail
            refine (partR_is _ true HP _ (by omega)).mono ?_; rintro e _ ⟨rfl, rfl⟩
            go_wp2
            go_roundw
            case rel => exact ⟨k + 1, k + 1, by go_num, by go_num, by omega, by omega, N1.out, N2.out, by first | rfl | trivial⟩
            case measure => simp only [intOf]; omega
          · have hb : ((k : Int) == (s.size : Int)) = false := by simp; omega
            have hg : (s[k]'h1).toNat = 47 := by rw [byt_get]; exact h2
            have H2 := Hd.mk h2; clear h2
            go_wp2_with fail
            refine (partR_is _ true HP _ (by omega)).mono ?_; rintro e _ ⟨rfl, rfl⟩
            go_wp2
            go_roundw
            case rel => exact ⟨k + 1, k + 1, by go_num, by go_num, by omega, by omega, N1.out, N2.out, by first | rfl | trivial⟩
            case measure => simp only [intOf]; omega
      · have hb : ((k : Int) == (s.size : Int)) = false := by simp; omega
        obtain ⟨b, hbe⟩ : ∃ b, byt s k = b := ⟨_, rfl⟩
        have hg : (s[k]'hlt).toNat = b := by rw [byt_get]; exact hbe
        rw [hbe] at hne
        have h47 : ((b : Int) == 47) = false := by simp; omega
        have HB := Hd.mk hbe; have HNE := Hd.mk hne; have HCL := Hd.mk hcl; have HAL := Hd.mk hall; clear hbe hne hcl hall
        go_wp2
        go_roundw
        case rel =>
          refine ⟨f, k + 1, by go_num, by go_num, by omega, by omega, fun _ => ⟨fun j h1 h2 => ?_, HAL.out⟩, fun h => by omega, by first | rfl | trivial⟩
          rcases Nat.lt_or_ge j k with h | h
          · exact HCL.out j h1 h
          · obtain rfl : j = k := by omega
            rw [HB.out]; exact HNE.out
        case measure => simp only [intOf]; omega
    · have hal := (hout (by omega)).out
      have HN2 : Hd (nameP s = decide ((s.size : Int) ≤ 64)) := ⟨by rw [HN.out, hal, Bool.and_true, Bool.eq_iff_iff]; simp; omega⟩
      clear hin hout hal
      go_wp2
      go_ret
      exact ⟨congrArg Ending.returned (vbool HN2.out.symm), rfl⟩
end Go.Proofs.YtfofapggmoibkaaGreatDoor
namespace Go.Proofs.YtfofapggmoibkaaGreatDoor
open Go Go.RowKit

set_option maxRecDepth 100000 in
set_option maxHeartbeats 4000000 in
theorem bytesR_any (fs : List FileT) (A : Option Addr) (c : Nat) (w : World) (hn : fs.length ≤ 1000) (hB : ∀ f ∈ fs, f.1.size ≤ 1000000 ∧ f.2.size ≤ 1000000) (hA : RowAt w A (fcells fs)) :
    Calls Tryz.prog 60 #[.slice A fs.length c] w fun e w' => e = .returned (.string (arcB fs)) ∧ Ext w w' := by
  have hu := uvs_size fs.length (by omega)
  have HA := Hd.mk hA; have HB := Hd.mk hB; clear hA hB
  go_enter Tryz.func60, Tryz.ntmps60
  go_wp2_with fail
  refine (uintR_any _ _ (by omega) (by omega)).mono ?_; rintro e w1 ⟨rfl, hx1⟩
  have HX1 := Hd.mk hx1; clear hx1
  go_wp2_with fail
  go_loopw [3, 5] (fun a i wr => ∃ (k : Nat), i = .int .i64 (k : Int) ∧ k ≤ fs.length ∧ a = .string (arcT (fs.take k) (uvs fs.length)) ∧ Ext w wr) (fun _ i _ => fs.length - (intOf i).toNat)
  case atStart => exact ⟨0, rfl, by omega, by simp [arcT], HX1.out⟩
  case round =>
    clear HX1
    obtain ⟨k, rfl, hk, rfl, hext⟩ := hrel
    by_cases hlt : k < fs.length
    · have hgk : fs[k]? = some fs[k] := List.getElem?_eq_getElem hlt
      obtain ⟨f1, f2⟩ := HB.out _ (List.getElem_mem hlt)
      have hsz := arcT_size (fs.take k) (uvs fs.length) (fun f hf => HB.out f (List.mem_of_mem_take hf))
      rw [List.length_take, Nat.min_eq_left hk] at hsz
      have hsn : arcT (fs.take (k + 1)) (uvs fs.length) = arcT (fs.take k) (uvs fs.length) ++ txt fs[k].1 ++ txt fs[k].2 := by rw [take_snoc hgk, arcT_snoc, ByteArray.append_assoc]
      obtain ⟨b, o, hix, hc0, hc1⟩ := file_get (HA.out.ext hext) c k hgk
      generalize fs[k] = f at *
      have hd : ∀ w', Ext wr w' → w'.cell? ⟨b, o, none⟩ = some (.string f.1) ∧ w'.cell? ⟨b, o + 1, none⟩ = some (.string f.2) := fun w' hx => ⟨hx.cell hc0, hx.cell hc1⟩
      have HDD := Hd.mk hd; have HSN := Hd.mk hsn; have HX := Hd.mk hext; clear hd hc0 hc1 hsn hext hgk
      have hz1 := txt_size f.1 (by omega)
      have hz2 := txt_size f.2 (by omega)
      generalize arcT (fs.take k) (uvs fs.length) = acc at *
      go_wp2_with fail
      refine wp_region_pi (fun w' => w'.cell? ⟨b, o, none⟩ = some (.string f.1) ∧ w'.cell? ⟨b, o + 1, none⟩ = some (.string f.2)) [(true, 0), (true, 1), (true, 2), (true, 3), (true, 4), (true, 5), (true, 8), (true, 9), (true, 10), (true, 11), (true, 12), (false, 6), (true, 7), (false, 13), (true, 14), (true, 15)] (by kernel_rfl) (by kernel_rfl) (by intro c a d v w h; cases d <;> exact h) ?_
      iterate 11 (refine pi_still rfl (HDD.out _ ((Ext.refl wr).drew)) rfl (fun w' hS => by obtain ⟨s0, s1⟩ := hS; have hi1 := hix w'; go_simp; rfl) ?_; intro K hK; go_simp; refine hK _ _ ?_; clear hK K)
      refine pi_act rfl rfl ?_; intro K hK; go_simp; refine (textR_any f.1 _ (by omega)).mono ?_; rintro e w8 ⟨rfl, hx8⟩
      have HX9 := Hd.mk ((Ext.refl wr).drew.trans hx8); clear hx8
      refine hK _ _ (HDD.out _ HX9.out) ?_; clear hK K
      have hc1 : ¬ 9223372036854775807 < acc.size + (txt f.1).size := by omega
      generalize txt f.1 = z1 at *
      refine pi_still rfl (HDD.out _ HX9.out) rfl (fun w' hS => by go_simp; rfl) ?_; intro K hK; go_simp; refine hK _ _ ?_; clear hK K
      refine pi_act rfl rfl ?_; intro K hK; go_simp; refine (textR_any f.2 _ (by omega)).mono ?_; rintro e w9 ⟨rfl, hx9⟩
      have HX10 := Hd.mk (HX9.out.trans hx9); clear hx9
      refine hK _ _ (HDD.out _ HX10.out) ?_; clear hK K
      generalize txt f.2 = z2 at *
      have hc2 : ¬ 9223372036854775807 < acc.size + z1.size + z2.size := by omega
      iterate 2 (refine pi_still rfl (HDD.out _ HX10.out) rfl (fun w' hS => by go_simp; rfl) ?_; intro K hK; go_simp; refine hK _ _ ?_; clear hK K)
      refine pi_nil ?_
      go_wp2
      go_roundw
      case rel => exact ⟨k + 1, by go_num, by omega, vstr HSN.out.symm, HX.out.trans HX10.out⟩
      case measure => simp only [intOf]; omega
    · obtain rfl : k = fs.length := by omega
      go_wp2
      go_ret
      exact ⟨congrArg Ending.returned (vstr (by rw [arcB, List.take_length])), hext⟩
end Go.Proofs.YtfofapggmoibkaaGreatDoor
namespace Go.Proofs.YtfofapggmoibkaaGreatDoor
open Go Go.RowKit

abbrev slashB : ByteArray := ⟨#[47]⟩
/-- file i of the reference is good -/
def okI (fs : List FileT) (i : Nat) : Prop := match fs[i]? with
  | none => True
  | some f => nameP f.1 = true ∧ (∀ g : FileT, 0 < i → fs[i - 1]? = some g → ltB g.1 f.1 = true) ∧ ∀ (k : Nat) (g : FileT), fs[k]? = some g → beginsP g.1 (f.1 ++ slashB) = false
open Classical in
noncomputable def vfE (fs : List FileT) : Int := if ∀ i, i < fs.length → okI fs i then (if 32 < fs.length ∨ 65536 < (arcB fs).size then 7 else 0) else 4
theorem nameR_is (s : ByteArray) (b : Bool) (H : Hd (nameP s = b)) (w : World) (hs : s.size ≤ 1000000000) : Calls Tryz.prog 95 #[.string s] w fun e w' => e = .returned (.bool b) ∧ w = w' := by
  rw [← H.out]; exact nameR_any s w hs
theorem begins_is (s p : ByteArray) (b : Bool) (H : Hd (beginsP s p = b)) (w : World) (hs : s.size ≤ 9223372036854775807) (hp : p.size ≤ 9223372036854775807) : Calls Tryz.prog 96 #[.string s, .string p] w fun e w' => e = .returned (.bool b) ∧ w = w' := by
  rw [← H.out]; exact begins_any s p w hs hp
set_option maxRecDepth 100000 in
set_option maxHeartbeats 4000000 in
theorem validFiles_any (fs : List FileT) (A : Option Addr) (c : Nat) (w : World) (hn : fs.length ≤ 1000) (hB : ∀ f ∈ fs, f.1.size ≤ 1000000 ∧ f.2.size ≤ 1000000) (hA : RowAt w A (fcells fs)) :
    Calls Tryz.prog 59 #[.slice A fs.length c] w fun e w' => e = .returned (.int .i64 (vfE fs)) ∧ Ext w w' := by
  have HA := Hd.mk hA; have HB := Hd.mk hB; clear hA hB
  have HBAD : Hd (∀ i, i < fs.length → ¬ okI fs i → vfE fs = 4) := ⟨fun i h1 h2 => by rw [vfE, if_neg (fun h => h2 (h i h1))]⟩
  go_enter Tryz.func59, Tryz.ntmps59
  go_wp2
  go_loopw [3, 4] (fun i _ wr => ∃ (k : Nat), i = .int .i64 (k : Int) ∧ k ≤ fs.length ∧ Hd (∀ j < k, okI fs j) ∧ Ext w wr) (fun i _ _ => fs.length - (intOf i).toNat)
  case atStart => exact ⟨0, rfl, by omega, ⟨fun j hj => by omega⟩, Ext.refl w⟩
  case round =>
    rename World => w1
    obtain ⟨k, rfl, hk, hok, hext⟩ := hrel
    by_cases hlt : k < fs.length
    · have hgk : fs[k]? = some fs[k] := List.getElem?_eq_getElem hlt
      obtain ⟨z1, z2⟩ := HB.out _ (List.getElem_mem hlt)
      obtain ⟨b, o, hix, hc0, hc1⟩ := file_get (HA.out.ext hext) c k hgk
      generalize fs[k] = f at *
      have HGK := Hd.mk hgk; have HX := Hd.mk hext; have HOK := Hd.mk hok; clear hgk hext hok hc1
      have HD0 : Hd (∀ w', Ext w1 w' → w'.cell? ⟨b, o, none⟩ = some (.string f.1)) := ⟨fun w' hx => hx.cell hc0⟩
      clear hc0
      cases hnp : nameP f.1 with
      | false =>
        have HNP := Hd.mk hnp; clear hnp
        go_wp2_with fail
        refine wp_region_pi (fun w' => w'.cell? ⟨b, o, none⟩ = some (.string f.1)) [(true, 0), (true, 1), (true, 2), (true, 3), (true, 4), (false, 5), (true, 6), (true, 7), (true, 8), (true, 9), (true, 10), (true, 11), (true, 12), (true, 13), (true, 14), (true, 15), (true, 16), (true, 17), (true, 18), (true, 19), (true, 20), (true, 21), (true, 22), (true, 23), (true, 24)] (by kernel_rfl) (by kernel_rfl) (by intro c a d v w h; cases d <;> exact h) ?_
        iterate 5 (refine pi_still rfl (HD0.out _ ((Ext.refl w1).drew)) rfl (fun w' s0 => by have hi1 := hix w'; go_simp; rfl) ?_; intro K hK; go_simp; refine hK _ _ ?_; clear hK K)
        refine pi_act rfl rfl ?_; intro K hK; go_simp; refine (nameR_is f.1 false HNP _ (by omega)).mono ?_; rintro e _ ⟨rfl, rfl⟩
        refine hK _ _ (HD0.out _ ((Ext.refl w1).drew)) ?_; clear hK K
        iterate 2 (refine pi_still rfl (HD0.out _ ((Ext.refl w1).drew)) rfl (fun w' s0 => by go_simp; rfl) ?_; intro K hK; go_simp; refine hK _ _ ?_; clear hK K)
        iterate 16 (refine pi_skip rfl (HD0.out _ ((Ext.refl w1).drew)) rfl ?_; intro K hK; go_simp; refine hK _ _ ?_; clear hK K)
        refine pi_still rfl (HD0.out _ ((Ext.refl w1).drew)) rfl (fun w' s0 => by go_simp; rfl) ?_; intro K hK; go_simp; refine hK _ _ ?_; clear hK K
        refine pi_nil ?_
        go_wp2
        go_ret
        exact ⟨congrArg Ending.returned (vint (HBAD.out k hlt (by rw [okI, HGK.out]; simp [HNP.out])).symm), HX.out.drew⟩
      | true =>
        have HNP := Hd.mk hnp; clear hnp
        have hprev : 0 < k → ∃ g b' o', fs[k - 1]? = some g ∧ (∀ w', (Instr.indexAt 34 (.slice A fs.length c) (.int .i64 ((k : Int) - 1))).run Tryz.prog w' = .ok (.pointer (some ⟨b', o', none⟩)) w') ∧ w1.cell? ⟨b', o', none⟩ = some (.string g.1) := by
          intro h0
          have hg1 : fs[k - 1]? = some fs[k - 1] := List.getElem?_eq_getElem (by omega)
          obtain ⟨b', o', h1, h2, _⟩ := file_get (HA.out.ext HX.out) c (k - 1) hg1
          refine ⟨_, b', o', hg1, fun w' => ?_, h2⟩
          have := h1 w'
          rwa [show ((k - 1 : Nat) : Int) = (k : Int) - 1 by omega] at this
        have hcases : (k = 0 ∨ ∃ g b' o', 0 < k ∧ Op.bytesLess g.1.toList f.1.toList = true ∧ Hd (fs[k - 1]? = some g) ∧ (∀ w', (Instr.indexAt 34 (.slice A fs.length c) (.int .i64 ((k : Int) - 1))).run Tryz.prog w' = .ok (.pointer (some ⟨b', o', none⟩)) w') ∧ Hd (w1.cell? ⟨b', o', none⟩ = some (.string g.1))) ∨ ∃ g b' o', 0 < k ∧ Op.bytesLess g.1.toList f.1.toList = false ∧ Hd (fs[k - 1]? = some g) ∧ (∀ w', (Instr.indexAt 34 (.slice A fs.length c) (.int .i64 ((k : Int) - 1))).run Tryz.prog w' = .ok (.pointer (some ⟨b', o', none⟩)) w') ∧ Hd (w1.cell? ⟨b', o', none⟩ = some (.string g.1)) := by
          rcases Nat.eq_zero_or_pos k with h | h
          · exact .inl (.inl h)
          · obtain ⟨g, b', o', h1, h2, h3⟩ := hprev h
            cases hb : Op.bytesLess g.1.toList f.1.toList with
            | true => exact .inl (.inr ⟨g, b', o', h, hb, ⟨h1⟩, h2, ⟨h3⟩⟩)
            | false => exact .inr ⟨g, b', o', h, hb, ⟨h1⟩, h2, ⟨h3⟩⟩
        clear hprev
        go_wp2_with fail
        refine wp_region_pi (fun w' => w'.cell? ⟨b, o, none⟩ = some (.string f.1) ∧ Ext w1 w') [(true, 0), (true, 1), (true, 2), (true, 3), (true, 4), (false, 5), (true, 6), (true, 7), (true, 8), (true, 9), (true, 10), (true, 11), (true, 12), (true, 13), (true, 14), (true, 15), (true, 16), (true, 17), (true, 18), (true, 19), (true, 20), (true, 21), (true, 22), (true, 23), (true, 24)] (by kernel_rfl) (by kernel_rfl) (by intro c a d v w h; cases d <;> exact h) ?_
        have HS0 : Hd (w1.drew.cell? ⟨b, o, none⟩ = some (.string f.1) ∧ Ext w1 w1.drew) := ⟨HD0.out _ ((Ext.refl w1).drew), (Ext.refl w1).drew⟩
        iterate 5 (refine pi_still rfl HS0.out rfl (fun w' hS => by obtain ⟨s0, s1⟩ := hS; have hi1 := hix w'; go_simp; rfl) ?_; intro K hK; go_simp; refine hK _ _ ?_; clear hK K)
        refine pi_act rfl rfl ?_; intro K hK; go_simp; refine (nameR_is f.1 true HNP _ (by omega)).mono ?_; rintro e _ ⟨rfl, rfl⟩
        refine hK _ _ HS0.out ?_; clear hK K
        iterate 2 (refine pi_still rfl HS0.out rfl (fun w' hS => by go_simp; rfl) ?_; intro K hK; go_simp; refine hK _ _ ?_; clear hK K)
        rcases hcases with hcases | ⟨g, b', o', hk0, hbl, HG1, hix1, HC1⟩
        case inr =>
          have hk1 : (k : Int) > 0 := by omega
          have hwr : IntKind.i64.wrap ((k : Int) - 1) = (k : Int) - 1 := IntWalk.i64_in _ (by omega)
          iterate 3 (refine pi_still rfl HS0.out rfl (fun w' hS => by go_simp; rfl) ?_; intro K hK; go_simp; refine hK _ _ ?_; clear hK K)
          iterate 12 (refine pi_still rfl HS0.out rfl (fun w' hS => by obtain ⟨s0, s1⟩ := hS; have hi1 := hix w'; have hi2 := hix1 w'; have c2 := s1.cell HC1.out; go_simp; rfl) ?_; intro K hK; go_simp; refine hK _ _ ?_; clear hK K)
          iterate 2 (refine pi_still rfl HS0.out rfl (fun w' hS => by go_simp; rfl) ?_; intro K hK; go_simp; refine hK _ _ ?_; clear hK K)
          refine pi_nil ?_
          have HBL := Hd.mk hbl
          clear hix1
          go_wp2
          go_ret
          exact ⟨congrArg Ending.returned (vint (HBAD.out k hlt (by rw [okI, HGK.out]; intro h; have := h.2.1 g hk0 HG1.out; rw [ltB, HBL.out] at this; cases this)).symm), HX.out.drew⟩
        have HPV : Hd (∀ g : FileT, 0 < k → fs[k - 1]? = some g → ltB g.1 f.1 = true) := ⟨by
          intro g h0 hg
          rcases hcases with h | ⟨g', b', o', _, h2, h3, _⟩
          · omega
          · rw [h3.out] at hg; injection hg with hg; subst hg; exact h2⟩
        rcases hcases with hk0 | ⟨g, b', o', hk0, hbl, HG1, hix1, HC1⟩
        focus
          have hk1 : decide ((0 : Int) < (k : Int)) = false := decide_eq_false (by omega)
          have hk2 : ¬ 0 < k := by omega
          clear hk0
          iterate 3 (refine pi_still rfl HS0.out rfl (fun w' hS => by go_simp; rfl) ?_; intro K hK; go_simp; refine hK _ _ ?_; clear hK K)
          iterate 12 (refine pi_skip rfl HS0.out rfl ?_; intro K hK; go_simp; refine hK _ _ ?_; clear hK K)
          iterate 2 (refine pi_still rfl HS0.out rfl (fun w' hS => by go_simp; rfl) ?_; intro K hK; go_simp; refine hK _ _ ?_; clear hK K)
          refine pi_nil ?_
          clear hk1 hk2
        rotate_left
        focus
          have hk1 : (k : Int) > 0 := by omega
          have hwr : IntKind.i64.wrap ((k : Int) - 1) = (k : Int) - 1 := IntWalk.i64_in _ (by omega)
          iterate 3 (refine pi_still rfl HS0.out rfl (fun w' hS => by go_simp; rfl) ?_; intro K hK; go_simp; refine hK _ _ ?_; clear hK K)
          iterate 12 (refine pi_still rfl HS0.out rfl (fun w' hS => by obtain ⟨s0, s1⟩ := hS; have hi1 := hix w'; have hi2 := hix1 w'; have c2 := s1.cell HC1.out; go_simp; rfl) ?_; intro K hK; go_simp; refine hK _ _ ?_; clear hK K)
          iterate 2 (refine pi_still rfl HS0.out rfl (fun w' hS => by go_simp; rfl) ?_; intro K hK; go_simp; refine hK _ _ ?_; clear hK K)
          refine pi_nil ?_
          clear hk1 hwr hbl HG1 hix1 HC1
        all_goals
          go_wp2
          have hix0 := hix
          have hd8 : decide ((k : Int) < (fs.length : Int)) = true := decide_eq_true (by omega)
          try simp only [hd8]
          clear hd8
          go_loopw [4] (fun i w2 => ∃ (m : Nat), i = .int .i64 (m : Int) ∧ m ≤ fs.length ∧ Hd (∀ j < m, ∀ g : FileT, fs[j]? = some g → beginsP g.1 (f.1 ++ slashB) = false) ∧ Ext w1 w2) (fun i _ => fs.length - (intOf i).toNat)
          case atStart => exact ⟨0, rfl, by omega, ⟨fun j hj => by omega⟩, HS0.out.2⟩
          case round =>
            rename World => w2
            obtain ⟨m, rfl, hm, hno, hx2⟩ := hrel
            by_cases hlm : m < fs.length
            · have hgm : fs[m]? = some fs[m] := List.getElem?_eq_getElem hlm
              obtain ⟨y1, y2⟩ := HB.out _ (List.getElem_mem hlm)
              obtain ⟨b2, o2, hixm, hcm, _⟩ := file_get (HA.out.ext (HX.out.trans hx2)) c m hgm
              generalize fs[m] = g at *
              have HGM := Hd.mk hgm; have HX2 := Hd.mk hx2; clear hgm hx2
              have HS2 : Hd (∀ w', Ext w2 w' → w'.cell? ⟨b, o, none⟩ = some (.string f.1) ∧ w'.cell? ⟨b2, o2, none⟩ = some (.string g.1)) := ⟨fun w' hx => ⟨HD0.out _ (HX2.out.trans hx), hx.cell hcm⟩⟩
              clear hcm
              have hcat : ¬ 9223372036854775807 < f.1.size + 1 := by omega
              have hsl : (f.1 ++ slashB).size = f.1.size + 1 := by rw [ByteArray.size_append]; rfl
              cases hbg : beginsP g.1 (f.1 ++ slashB) with
              | true =>
                have HBG := Hd.mk hbg; clear hbg
                go_wp2_with fail
                refine wp_region_pi (fun w' => w'.cell? ⟨b, o, none⟩ = some (.string f.1) ∧ w'.cell? ⟨b2, o2, none⟩ = some (.string g.1)) [(true, 0), (true, 1), (true, 2), (true, 3), (true, 4), (true, 5), (true, 6), (true, 7), (true, 8), (true, 9), (true, 10), (false, 11)] (by kernel_rfl) (by kernel_rfl) (by intro c a d v w h; cases d <;> exact h) ?_
                iterate 11 (refine pi_still rfl (HS2.out _ ((Ext.refl w2).drew)) rfl (fun w' hS => by obtain ⟨s0, s1⟩ := hS; have hi1 := hix w'; have hi2 := hixm w'; go_simp; rfl) ?_; intro K hK; go_simp; refine hK _ _ ?_; clear hK K)
                refine pi_act rfl rfl ?_; intro K hK; go_simp; refine (begins_is g.1 (f.1 ++ slashB) true HBG _ (by omega) (by rw [hsl]; omega)).mono ?_; rintro e _ ⟨rfl, rfl⟩
                refine hK _ _ (HS2.out _ ((Ext.refl w2).drew)) ?_; clear hK K
                refine pi_nil ?_
                go_wp2
                go_ret
                exact ⟨congrArg Ending.returned (vint (HBAD.out k hlt (by rw [okI, HGK.out]; intro h; have := h.2.2 m g HGM.out; rw [HBG.out] at this; cases this)).symm), (HX.out.trans HX2.out).drew⟩
              | false =>
                have HBG := Hd.mk hbg; clear hbg
                go_wp2_with fail
                refine wp_region_pi (fun w' => w'.cell? ⟨b, o, none⟩ = some (.string f.1) ∧ w'.cell? ⟨b2, o2, none⟩ = some (.string g.1)) [(true, 0), (true, 1), (true, 2), (true, 3), (true, 4), (true, 5), (true, 6), (true, 7), (true, 8), (true, 9), (true, 10), (false, 11)] (by kernel_rfl) (by kernel_rfl) (by intro c a d v w h; cases d <;> exact h) ?_
                iterate 11 (refine pi_still rfl (HS2.out _ ((Ext.refl w2).drew)) rfl (fun w' hS => by obtain ⟨s0, s1⟩ := hS; have hi1 := hix w'; have hi2 := hixm w'; go_simp; rfl) ?_; intro K hK; go_simp; refine hK _ _ ?_; clear hK K)
                refine pi_act rfl rfl ?_; intro K hK; go_simp; refine (begins_is g.1 (f.1 ++ slashB) false HBG _ (by omega) (by rw [hsl]; omega)).mono ?_; rintro e _ ⟨rfl, rfl⟩
                refine hK _ _ (HS2.out _ ((Ext.refl w2).drew)) ?_; clear hK K
                refine pi_nil ?_
                go_wp2
                go_roundw
                case rel =>
                  refine ⟨m + 1, by go_num, by omega, ⟨fun j hj g' hg' => ?_⟩, HX2.out.drew⟩
                  rcases Nat.lt_or_ge j m with h | h
                  · exact hno.out j h g' hg'
                  · obtain rfl : j = m := by omega
                    rw [HGM.out] at hg'; injection hg' with hg'; subst hg'
                    exact HBG.out
                case measure => simp only [intOf]; omega
            · obtain rfl : m = fs.length := by omega
              have HX2 := Hd.mk hx2; clear hx2
              go_wp2
              go_roundw
              case rel =>
                refine ⟨k + 1, by go_num, by omega, ⟨fun j hj => ?_⟩, HX.out.trans HX2.out⟩
                rcases Nat.lt_or_ge j k with h | h
                · exact HOK.out.out j h
                · obtain rfl : j = k := by omega
                  rw [okI, HGK.out]
                  refine ⟨HNP.out, HPV.out, fun j g hg => hno.out j ?_ g hg⟩
                  exact (List.getElem?_eq_some_iff.1 hg).1
              case measure => simp only [intOf]; omega
    · obtain rfl : k = fs.length := by omega
      by_cases h32 : (fs.length : Int) > 32
      · have hv : Hd (vfE fs = 7) := ⟨by rw [vfE, if_pos hok.out, if_pos (.inl (by omega))]⟩
        go_wp2
        go_ret
        exact ⟨congrArg Ending.returned (vint hv.out.symm), hext⟩
      · have HX := Hd.mk hext; clear hext
        have hsz : (arcB fs).size ≤ 1000 * 2000040 + 10 := by
          have h1 := arcT_size fs (uvs fs.length) HB.out
          have h2 := uvs_size fs.length (by omega)
          have h3 : fs.length * 2000040 ≤ 1000 * 2000040 := Nat.mul_le_mul_right _ hn
          show (arcT fs (uvs fs.length)).size ≤ _
          omega
        by_cases h64 : ((arcB fs).size : Int) > 65536
        · have hv : Hd (vfE fs = 7) := ⟨by rw [vfE, if_pos hok.out, if_pos (.inr (by omega))]⟩
          go_wp2_with fail
          refine (bytesR_any fs A c _ hn HB.out (HA.out.ext HX.out)).mono ?_; rintro e w2 ⟨rfl, hx2⟩
          go_wp2
          go_ret
          exact ⟨congrArg Ending.returned (vint hv.out.symm), HX.out.trans hx2⟩
        · have hv : Hd (vfE fs = 0) := ⟨by rw [vfE, if_pos hok.out, if_neg (by omega)]⟩
          go_wp2_with fail
          refine (bytesR_any fs A c _ hn HB.out (HA.out.ext HX.out)).mono ?_; rintro e w2 ⟨rfl, hx2⟩
          go_wp2
          go_ret
          exact ⟨congrArg Ending.returned (vint hv.out.symm), HX.out.trans hx2⟩
end Go.Proofs.YtfofapggmoibkaaGreatDoor
