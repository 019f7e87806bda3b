/- Parts of names of files: the closures of the program, strings.IndexRune at a rune that is no ASCII. Parts of names and names of files of the program. -/
import Derived.Test.YtfofapggmoibkaaGreatDoorProg
import Derived.Test.YtfofapggmoibkaaGreatDoorShelf
import Derived.Test.YtfofapggmoibkaaGreatDoorFoundB
import Derived.Test.YtfofapggmoibkaaGreatDoorFoundA
import Derived.Deep.QuietTactic
import Derived.BigQuiet
import Derived.Laws.EntriesVeiled
import Derived.Laws.Runes
import Derived.Laws.RangeString
import Derived.Test.YtfofapggmoibkaaGreatDoorObjX
set_option linter.unusedVariables false
set_option linter.unusedSimpArgs false
namespace Go.Proofs.YtfofapggmoibkaaGreatDoor
open Go Go.RowKit

def dotsB : ByteArray := ⟨#[46, 95, 45]⟩
set_option maxRecDepth 100000 in
set_option maxHeartbeats 1000000 in
theorem idxRune_err (w : World) : Calls Tryz.prog 146 #[.string ⟨#[46, 95, 45]⟩, .int .i32 65533] w fun e w' => e = .returned (.int .i64 (-1)) ∧ Ext w w' := by
  go_enter Tryz.func146, Tryz.ntmps146
  go_wp2
  go_loopw [176] (fun _ wr => ∃ pos, pos ≤ 3 ∧ wr = w.iter ⟨#[46, 95, 45]⟩ pos) (fun _ wr => match wr.heap[w.heap.size]? with | some (.stringIter _ pos) => 10 - pos | _ => 0)
  case atStart => exact ⟨0, by omega, rfl⟩
  case round =>
    obtain ⟨pos, hp, rfl⟩ := hrel
    have hn : ∀ (j : Nat) (h : j < (⟨#[46, 95, 45]⟩ : ByteArray).size) ty, ((⟨#[46, 95, 45]⟩ : ByteArray)[j]'h).toNat < 128 → (Instr.next (.pointer (some ⟨w.heap.size, 0, none⟩)) true ty).run Tryz.prog (w.iter ⟨#[46, 95, 45]⟩ j) = .ok (.tuple #[.bool true, .int .i64 j, .int .i32 ((⟨#[46, 95, 45]⟩ : ByteArray)[j]'h).toNat]) (w.iter ⟨#[46, 95, 45]⟩ (j + 1)) := fun j h ty ha => run_next_ascii w _ j ty h ha
    have he : ∀ ty, (Instr.next (.pointer (some ⟨w.heap.size, 0, none⟩)) true ty).run Tryz.prog (w.iter ⟨#[46, 95, 45]⟩ 3) = .ok (.tuple #[.bool false]) (w.iter ⟨#[46, 95, 45]⟩ 3) := fun ty => run_next_end w _ 3 ty (by decide)
    have h0 := fun ty => hn 0 (by decide) ty (by decide)
    have h1 := fun ty => hn 1 (by decide) ty (by decide)
    have h2 := fun ty => hn 2 (by decide) ty (by decide)
    clear hn
    have m0 : ∀ j, (w.iter ⟨#[46, 95, 45]⟩ j).heap[w.heap.size]? = some (.stringIter ⟨#[46, 95, 45]⟩ j) := fun j => World.iter_heap w _ j
    have hext : ∀ j, Ext w (w.iter ⟨#[46, 95, 45]⟩ j) := fun j => (Ext.refl w).alloc _
    have M0 := Hd.mk m0; have HX := Hd.mk hext; clear m0 hext
    have h0 : ∀ ty, (Instr.next (.pointer (some ⟨w.heap.size, 0, none⟩)) true ty).run Tryz.prog (w.iter ⟨#[46, 95, 45]⟩ 0) = .ok (.tuple #[.bool true, .int .i64 0, .int .i32 46]) (w.iter ⟨#[46, 95, 45]⟩ 1) := h0
    have h1 : ∀ ty, (Instr.next (.pointer (some ⟨w.heap.size, 0, none⟩)) true ty).run Tryz.prog (w.iter ⟨#[46, 95, 45]⟩ 1) = .ok (.tuple #[.bool true, .int .i64 1, .int .i32 95]) (w.iter ⟨#[46, 95, 45]⟩ 2) := h1
    have h2 : ∀ ty, (Instr.next (.pointer (some ⟨w.heap.size, 0, none⟩)) true ty).run Tryz.prog (w.iter ⟨#[46, 95, 45]⟩ 2) = .ok (.tuple #[.bool true, .int .i64 2, .int .i32 45]) (w.iter ⟨#[46, 95, 45]⟩ 3) := h2
    have hc : pos = 0 ∨ pos = 1 ∨ pos = 2 ∨ pos = 3 := by omega
    rcases hc with rfl | rfl | rfl | rfl
    · go_wp2
      go_roundw
      case rel => exact ⟨1, by omega, rfl⟩
      case measure => rw [M0.out, M0.out]; simp
    · go_wp2
      go_roundw
      case rel => exact ⟨2, by omega, rfl⟩
      case measure => rw [M0.out, M0.out]; simp
    · go_wp2
      go_roundw
      case rel => exact ⟨3, by omega, rfl⟩
      case measure => rw [M0.out, M0.out]; simp
    · go_wp2
      go_ret
      exact ⟨rfl, HX.out 3⟩
theorem indexByte_none (l : List UInt8) (c : UInt8) (h : ∀ b ∈ l, b ≠ c) : Lib.indexByte l c = -1 := by
  induction l with
  | nil => rfl
  | cons b l ih =>
    rw [Lib.indexByte, if_neg (by simpa using h b (by simp)), ih (fun x hx => h x (by simp [hx]))]
    rfl
theorem dots_lt : ∀ b ∈ (⟨#[46, 95, 45]⟩ : ByteArray).data.toList, b.toNat < 128 := by decide
theorem idxByte_no (s : ByteArray) (c : Int) (w : World) (hs : ∀ b ∈ s.data.toList, b.toNat < 128) (h0 : 128 ≤ c) (h1 : c < 256) : Calls Tryz.prog 162 #[.string s, .int .u8 c] w fun e w' => e = .returned (.int .i64 (-1)) ∧ w' = w := by
  refine (Tryz.strings_IndexByte s c w).mono ?_
  rintro e w' ⟨rfl, rfl⟩
  refine ⟨?_, rfl⟩
  rw [indexByte_none]
  intro b hb e
  have h2 := hs b hb
  rw [e] at h2
  have h3 : (c.toNat.toUInt8).toNat = c.toNat := by simp; omega
  omega
set_option maxRecDepth 100000 in
set_option maxHeartbeats 2000000 in
theorem idxRune_big (r : Int) (h128 : 128 ≤ r) (hmax : r ≤ 1114111) (hne : r ≠ 65533) (w : World) : Calls Tryz.prog 146 #[.string ⟨#[46, 95, 45]⟩, .int .i32 r] w fun e w' => e = .returned (.int .i64 (-1)) ∧ Ext w w' := by
  have t1 : (r == 65533) = false := by simpa using hne
  clear hne
  cases hv : Lib.validRune r with
  | false =>
    have HV := Hd.mk hv; clear hv
    have hcall := Tryz.utf8_ValidRune r
    rw [HV.out] at hcall
    have HC := Hd.mk hcall; clear hcall
    go_enter Tryz.func146, Tryz.ntmps146
    go_wp2_with fail
    refine (HC.out _).mono ?_; rintro e _ ⟨rfl, rfl⟩
    go_wp2
    go_ret
    exact ⟨rfl, Ext.refl _⟩
  | true =>
    have HV := Hd.mk hv
    have hcall := Tryz.utf8_ValidRune r
    rw [HV.out] at hcall
    have HC := Hd.mk hcall; clear hcall
    obtain ⟨e1, e2, e3⟩ := encode_facts r (by rw [validRune_eq]; exact hv) h128
    clear hv
    generalize hE : Utf8.encode r = E at *
    have hc : E.size = 2 ∨ E.size = 3 ∨ E.size = 4 := by omega
    rcases hc with hs | hs | hs
    · have hb : 128 ≤ (E[1]'(by omega)).toNat := by have := e3 (by omega); simpa [hs] using this
      have hlt : 1 < E.size := by omega
      have hb2 : (E[1]'hlt).toNat < 256 := UInt8.toNat_lt _
      generalize hbe : (E[1]'hlt).toNat = b at *
      have hne : ((((⟨#[46, 95, 45]⟩ : ByteArray)[1]'(by decide)).toNat : Int) != (b : Int)) = true := by
        have : (((⟨#[46, 95, 45]⟩ : ByteArray)[1]'(by decide)).toNat : Int) = 95 := rfl
        rw [this]; simp; omega
      clear e1 e2 e3
      go_enter Tryz.func146, Tryz.ntmps146
      go_wp2_with fail
      refine (HC.out _).mono ?_; rintro e wz ⟨rfl, hwz⟩
      obtain rfl : w = wz := hwz.symm
      go_wp2_with fail
      go_step3
      go_wp2_with fail
      go_loopw [9] (fun i wr => i = .int .i64 1 ∧ wr = w) (fun _ _ => 0)
      case atStart => exact ⟨rfl, rfl⟩
      case round =>
        obtain ⟨rfl, rfl⟩ := hrel
        go_wp2_with fail
        go_step3
        go_wp2_with fail
        go_quiet (fail)
        go_wp2_with fail
        refine wp_region_pi (fun _ => True) [(true, 0), (true, 1), (true, 2), (true, 3), (true, 4), (true, 5), (true, 6), (false, 7), (true, 8)] (by kernel_rfl) (by kernel_rfl) (by intro c a d v w h; cases d <;> exact h) ?_
        iterate 7 (refine pi_still rfl trivial rfl (fun w' hS => by go_simp; rfl) ?_; intro K hK; go_simp; refine hK _ _ ?_; clear hK K)
        refine pi_act rfl rfl ?_; intro K hK; go_simp
        refine (idxByte_no _ _ _ (fun x hx => dots_lt x (mem_extract hx)) (by omega) (by omega)).mono ?_; rintro e wz ⟨rfl, hwz⟩
        subst hwz
        refine hK _ _ trivial ?_; clear hK K
        refine pi_still rfl trivial rfl (fun w' hS => by go_simp; rfl) ?_; intro K hK; go_simp; refine hK _ _ ?_; clear hK K
        refine pi_nil ?_
        go_wp2_with fail
        rw [Exit.noGoto_ret]
        simp only [Exit.inBlock]
        show Exit.noGoto _ Exit.ret _ _
        rw [Exit.noGoto_ret]
        simp only [Exit.inBlock, Exit.then]
        rw [Exit.noGoto_ret]
        go_ret
        exact ⟨rfl, (Ext.refl _).drewN _⟩
    · have hb : 128 ≤ (E[2]'(by omega)).toNat := by have := e3 (by omega); simpa [hs] using this
      have hlt : 2 < E.size := by omega
      have hb2 : (E[2]'hlt).toNat < 256 := UInt8.toNat_lt _
      generalize hbe : (E[2]'hlt).toNat = b at *
      have hne : ((((⟨#[46, 95, 45]⟩ : ByteArray)[2]'(by decide)).toNat : Int) != (b : Int)) = true := by
        have : (((⟨#[46, 95, 45]⟩ : ByteArray)[2]'(by decide)).toNat : Int) = 45 := rfl
        rw [this]; simp; omega
      clear e1 e2 e3
      go_enter Tryz.func146, Tryz.ntmps146
      go_wp2_with fail
      refine (HC.out _).mono ?_; rintro e wz ⟨rfl, hwz⟩
      obtain rfl : w = wz := hwz.symm
      go_wp2_with fail
      go_step3
      go_wp2_with fail
      go_loopw [9] (fun i wr => i = .int .i64 2 ∧ wr = w) (fun _ _ => 0)
      case atStart => exact ⟨rfl, rfl⟩
      case round =>
        obtain ⟨rfl, rfl⟩ := hrel
        go_wp2_with fail
        go_step3
        go_wp2_with fail
        go_quiet (fail)
        go_wp2_with fail
        refine wp_region_pi (fun _ => True) [(true, 0), (true, 1), (true, 2), (true, 3), (true, 4), (true, 5), (true, 6), (false, 7), (true, 8)] (by kernel_rfl) (by kernel_rfl) (by intro c a d v w h; cases d <;> exact h) ?_
        iterate 7 (refine pi_still rfl trivial rfl (fun w' hS => by go_simp; rfl) ?_; intro K hK; go_simp; refine hK _ _ ?_; clear hK K)
        refine pi_act rfl rfl ?_; intro K hK; go_simp
        refine (idxByte_no _ _ _ (fun x hx => dots_lt x (mem_extract hx)) (by omega) (by omega)).mono ?_; rintro e wz ⟨rfl, hwz⟩
        subst hwz
        refine hK _ _ trivial ?_; clear hK K
        refine pi_still rfl trivial rfl (fun w' hS => by go_simp; rfl) ?_; intro K hK; go_simp; refine hK _ _ ?_; clear hK K
        refine pi_nil ?_
        go_wp2_with fail
        rw [Exit.noGoto_ret]
        simp only [Exit.inBlock]
        show Exit.noGoto _ Exit.ret _ _
        rw [Exit.noGoto_ret]
        simp only [Exit.inBlock, Exit.then]
        rw [Exit.noGoto_ret]
        go_ret
        exact ⟨rfl, (Ext.refl _).drewN _⟩
    · clear e1 e2 e3
      go_enter Tryz.func146, Tryz.ntmps146
      go_wp2_with fail
      refine (HC.out _).mono ?_; rintro e wz ⟨rfl, hwz⟩
      obtain rfl : w = wz := hwz.symm
      go_wp2_with fail
      go_step3
      go_wp2_with fail
      go_loopw [9] (fun i wr => i = .int .i64 3 ∧ wr = w) (fun _ _ => 0)
      case atStart => exact ⟨rfl, rfl⟩
      case round =>
        obtain ⟨rfl, rfl⟩ := hrel
        go_wp2_with fail
        rw [Exit.noGoto_ret]
        go_ret
        exact ⟨rfl, Ext.refl _⟩
end Go.Proofs.YtfofapggmoibkaaGreatDoor
namespace Go.Proofs.YtfofapggmoibkaaGreatDoor
open Go Go.RowKit

def dotR (x : Int) : Bool := x == 46 || x == 95 || x == 45
def okR (x : Int) : Bool := (decide (97 ≤ x) && decide (x ≤ 122)) || (decide (48 ≤ x) && decide (x ≤ 57)) || dotR x
theorem dot_small : ∀ t : Fin 128, decide (0 ≤ Lib.indexByte [46, 95, 45] ((t.val : Int).toNat.toUInt8)) = dotR (t.val : Int) := by decide +kernel
theorem idxRune_no (r : Int) (h128 : 128 ≤ r) (hmax : r ≤ 1114111) (w : World) : Calls Tryz.prog 146 #[.string ⟨#[46, 95, 45]⟩, .int .i32 r] w fun e w' => e = .returned (.int .i64 (-1)) ∧ Ext w w' := by
  by_cases h : r = 65533
  · subst h; exact idxRune_err w
  · exact idxRune_big r h128 hmax h w
set_option maxRecDepth 100000 in
theorem dots_any (r : Int) (h0 : 0 ≤ r) (hmax : r ≤ 1114111) (w : World) : Calls Tryz.prog 120 #[.string ⟨#[46, 95, 45]⟩, .int .i32 r] w fun e w' => e = .returned (.bool (dotR r)) ∧ Ext w w' := by
  by_cases h : r < 128
  · refine (Tryz.strings_ContainsRune_ascii ⟨#[46, 95, 45]⟩ r w h0 h).mono ?_
    rintro e w' ⟨rfl, rfl⟩
    obtain ⟨n, rfl⟩ := Int.eq_ofNat_of_zero_le h0
    exact ⟨congrArg Ending.returned (vbool (dot_small ⟨n, by omega⟩)), Ext.refl _⟩
  · have h128 : 128 ≤ r := by omega
    go_enter Tryz.func120, Tryz.ntmps120
    go_wp2_with fail
    refine (idxRune_no r h128 hmax _).mono ?_; rintro e w1 ⟨rfl, hx⟩
    go_wp2
    go_ret
    refine ⟨congrArg Ending.returned (vbool ?_), hx⟩
    rw [dotR]
    simp; omega
set_option maxRecDepth 100000 in
set_option maxHeartbeats 1000000 in
theorem part1_any (r : Int) (h0 : 0 ≤ r) (hmax : r ≤ 1114111) (w : World) : Calls Tryz.prog 119 #[.int .i32 r] w fun e w' => e = .returned (.bool (okR r)) ∧ Ext w w' := by
  have hc : r < 48 ∨ (48 ≤ r ∧ r ≤ 57) ∨ (58 ≤ r ∧ r < 97) ∨ (97 ≤ r ∧ r ≤ 122) ∨ 123 ≤ r := by omega
  rcases hc with h | ⟨h, h'⟩ | ⟨h, h'⟩ | ⟨h, h'⟩ | h
  · go_enter Tryz.func119, Tryz.ntmps119
    go_wp2_with fail
    refine (dots_any r h0 hmax _).mono ?_; rintro e w1 ⟨rfl, hx⟩
    go_wp2
    go_ret
    exact ⟨congrArg Ending.returned (vbool (by rw [okR, decide_eq_false (by omega : ¬ 97 ≤ r), decide_eq_false (by omega : ¬ 48 ≤ r)]; simp)), hx⟩
  · go_enter Tryz.func119, Tryz.ntmps119
    go_wp2_with fail
    go_ret
    exact ⟨congrArg Ending.returned (vbool (by rw [okR, decide_eq_true h, decide_eq_true h']; simp)), Ext.refl _⟩
  · go_enter Tryz.func119, Tryz.ntmps119
    go_wp2_with fail
    refine (dots_any r h0 hmax _).mono ?_; rintro e w1 ⟨rfl, hx⟩
    go_wp2
    go_ret
    exact ⟨congrArg Ending.returned (vbool (by rw [okR, decide_eq_false (by omega : ¬ 97 ≤ r), decide_eq_false (by omega : ¬ r ≤ 57)]; simp)), hx⟩
  · go_enter Tryz.func119, Tryz.ntmps119
    go_wp2_with fail
    go_ret
    exact ⟨congrArg Ending.returned (vbool (by rw [okR, decide_eq_true h, decide_eq_true h']; simp)), Ext.refl _⟩
  · go_enter Tryz.func119, Tryz.ntmps119
    go_wp2_with fail
    refine (dots_any r h0 hmax _).mono ?_; rintro e w1 ⟨rfl, hx⟩
    go_wp2
    go_ret
    exact ⟨congrArg Ending.returned (vbool (by rw [okR, decide_eq_false (by omega : ¬ r ≤ 122), decide_eq_false (by omega : ¬ r ≤ 57)]; simp)), hx⟩
set_option maxRecDepth 100000 in
theorem part2_any (r : Int) (h0 : 0 ≤ r) (hmax : r ≤ 1114111) (b : Nat) (w : World) (hb : w.cell? ⟨b, 0, none⟩ = some (.func (.func 119) #[] #[])) : Calls Tryz.prog 122 #[.int .i32 r, .pointer (some ⟨b, 0, none⟩)] w fun e w' => e = .returned (.bool (!okR r)) ∧ Ext w w' := by
  go_enter Tryz.func122, Tryz.ntmps122
  go_wp2_with fail
  refine (part1_any r h0 hmax _).mono ?_; rintro e w1 ⟨rfl, hx⟩
  go_wp2
  go_ret
  exact ⟨rfl, hx⟩
/-- a part of a name -/
def partP (s : ByteArray) : Bool := !(s.size == 0) && !(byt s 0 == 46) && s.data.toList.all fun b => okR (b.toNat : Int)
def badF (x : Nat) : Bool := !okR (x : Int)
theorem okR_ascii {x : Int} (h : okR x = true) : 0 ≤ x ∧ x < 128 := by
  simp [okR, dotR] at h
  omega
theorem idxF_from (s : ByteArray) : ∀ (f pos : Nat), s.size ≤ pos + f → decide (0 ≤ Lib.idxFuncFrom badF true s f pos) = !((s.data.toList.drop pos).all fun b => okR (b.toNat : Int))
  | 0, pos, h => by
    rw [Lib.idxFuncFrom, List.drop_eq_nil_of_le (by rw [data_len]; omega)]
    rfl
  | f + 1, pos, h => by
    by_cases hp : pos < s.size
    · have hlt : pos < s.data.toList.length := by rw [data_len]; exact hp
      rw [Lib.idxFuncFrom, if_pos hp, List.drop_eq_getElem_cons hlt, List.all_cons]
      have hb : s.data.toList[pos] = s[pos]'hp := by simp; rfl
      rw [hb]
      by_cases ha : (s[pos]'hp).toNat < 128
      · rw [decode_ascii s pos hp ha]
        simp only
        by_cases hk : okR ((s[pos]'hp).toNat : Int) = true
        · rw [if_neg (by simp [badF, hk]), idxF_from s f (pos + 1) (by omega), hk]
          simp
        · rw [if_pos (by simp [badF, hk])]
          simp [hk]
      · have hd := (decode_high s pos hp (by omega)).1
        have hk : ¬ okR ((s[pos]'hp).toNat : Int) = true := by intro h; have := okR_ascii h; omega
        have hk2 : ¬ okR ((Utf8.decode s pos).1 : Int) = true := by intro h; have := okR_ascii h; omega
        rw [if_pos (by simp [badF, hk2])]
        simp [hk]
    · rw [Lib.idxFuncFrom, if_neg hp, List.drop_eq_nil_of_le (by rw [data_len]; omega)]
      rfl
theorem idxF_all (s : ByteArray) : decide (0 ≤ Lib.idxFunc badF true s) = !(s.data.toList.all fun b => okR (b.toNat : Int)) := by
  have := idxF_from s s.size 0 (by omega)
  rwa [List.drop_zero] at this
set_option maxRecDepth 100000 in
set_option maxHeartbeats 1000000 in
theorem part_any (s : ByteArray) (w : World) : Calls Tryz.prog 94 #[.string s] w fun e w' => e = .returned (.bool (partP s)) ∧ Ext w w' := by
  by_cases h0 : s.size = 0
  · obtain rfl : s = ⟨#[]⟩ := by
      apply ByteArray.ext; apply Array.eq_empty_of_size_eq_zero; exact h0
    go_enter Tryz.func94, Tryz.ntmps94
    go_wp2_with fail
    go_ret
    exact ⟨rfl, (Ext.refl w).alloc _⟩
  · have hpos : 0 < s.size := by omega
    have he : s.toList.isEmpty = false := by
      rw [Go.ByteArray.toList_eq]
      have := data_len s
      cases hs : s.data.toList with
      | nil => rw [hs] at this; simp at this; omega
      | cons a l => rfl
    have he2 : (s.toList = []) = False := by
      rw [eq_iff_iff, iff_false, ← List.isEmpty_iff, he]; simp
    have hg := byt_get s 0 hpos
    have hs0 : (s.size == 0) = false := by simpa using h0
    by_cases hd : byt s 0 = 46
    · have ht : (((byt s 0 : Nat) : Int) != 46) = false := by rw [hd]; rfl
      have HD := Hd.mk hd; clear hd
      go_enter Tryz.func94, Tryz.ntmps94
      go_wp2_with fail
      go_ret
      exact ⟨congrArg Ending.returned (vbool (by rw [partP, HD.out]; simp)), (Ext.refl w).alloc _⟩
    · have ht : (((byt s 0 : Nat) : Int) != 46) = true := by simp; omega
      have HD := Hd.mk hd; clear hd
      go_enter Tryz.func94, Tryz.ntmps94
      go_wp2_with fail
      have hcell : (w.alloc (.cells #[.func (.func 119) #[] #[]] 148)).cell? ⟨w.heap.size, 0, none⟩ = some (.func (.func 119) #[] #[]) := cell_of (heap_alloc_new w _) rfl
      refine (Tryz.strings_ContainsFunc_grows 122 #[.pointer (some ⟨w.heap.size, 0, none⟩)] (fun args w => by rfl) badF s _ ?_).mono ?_
      · intro W x hx hW
        refine (part2_any (x : Int) (by omega) (by omega) w.heap.size W (Ext.cell hW hcell)).mono ?_
        rintro e w' ⟨rfl, hx'⟩
        exact ⟨rfl, hx'⟩
      rintro e w1 ⟨rfl, hx1⟩
      rw [idxF_all]
      go_wp2
      go_ret
      exact ⟨congrArg Ending.returned (vbool (by rw [partP, hs0]; simp [HD.out])), ((Ext.refl w).alloc _).trans hx1⟩
set_option maxRecDepth 100000 in
theorem named1_any (s : ByteArray) (w : World) : Calls Tryz.prog 93 #[.string s] w fun e w' => e = .returned (.bool (!partP s)) ∧ Ext w w' := by
  go_enter Tryz.func93, Tryz.ntmps93
  go_wp2_with fail
  refine (part_any s _).mono ?_; rintro e w1 ⟨rfl, hx⟩
  go_wp2
  go_ret
  exact ⟨rfl, hx⟩
/-- the package variable of the library that strings.Split reads -/
def GV (w : World) : Prop := ∃ m : Int, w.cell? ⟨0, 0, none⟩ = some (.int .i64 m)
theorem GV.ext {w w' : World} (h : GV w) (hx : Ext w w') : GV w' := by
  obtain ⟨m, hm⟩ := h
  exact ⟨m, hx.cell hm⟩
/-- the parts of a name -/
def splitP (s : ByteArray) : List ByteArray := Lib.splitB ⟨#[47]⟩ 0 (Lib.countB s ⟨#[47]⟩) s
def nameP (s : ByteArray) : Bool := decide (s.size ≤ 64) && !((splitP s).any fun p => !partP p)
theorem split_any (s : ByteArray) (w : World) (hs : s.size ≤ 1000000000) (hg : GV w) : Calls Tryz.prog 92 #[.string s, .string ⟨#[47]⟩] w fun e w' => ∃ A, e = .returned (.slice A (splitP s).length (splitP s).length) ∧ StrsAt w' A (splitP s) ∧ Ext w w' := by
  obtain ⟨m, hm⟩ := hg
  have hlen : (splitP s).length = Lib.countB s ⟨#[47]⟩ + 1 := Lib.splitB_all _ (by decide) 0 _ s rfl
  refine (Tryz.strings_Split s ⟨#[47]⟩ m w (by omega) hm (by decide)).mono ?_
  rintro e w1 ⟨rfl, rfl⟩
  refine ⟨some ⟨w.heap.size, 0, none⟩, by rw [hlen], .inr ⟨w.heap.size, 0, rfl, fun i x hi => ?_⟩, (Ext.refl w).alloc _⟩
  rw [Nat.zero_add]
  refine cell_of (heap_alloc_new w _) ?_
  show (((splitP s).map Value.string).toArray)[i]? = _
  simp [hi]
theorem splitP_len (s : ByteArray) : (splitP s).length ≤ s.size + 1 := by
  have hlen : (splitP s).length = Lib.countB s ⟨#[47]⟩ + 1 := Lib.splitB_all _ (by decide) 0 _ s rfl
  have h1 := Lib.countB_le ⟨#[47]⟩ (by decide) s.size s (Nat.le_refl _)
  omega
set_option maxRecDepth 100000 in
theorem badParts_any (l : List ByteArray) (A : Option Addr) (c : Nat) (w : World) (hl : l.length ≤ 9223372036854775807) (hA : StrsAt w A l) :
    Calls Tryz.prog 71 #[.slice A l.length c, .func (.func 93) #[] #[]] w fun e w' => e = .returned (.bool (l.any fun p => !partP p)) ∧ Ext w w' := by
  refine containsFunc_any 93 _ l A c w hl hA ⟨?_, fun x _ w' _ => named1_any x w'⟩
  intro args w
  rfl
set_option maxRecDepth 100000 in
set_option maxHeartbeats 1000000 in
theorem named_any (s : ByteArray) (w : World) (hs : s.size ≤ 9223372036854775807) (hg : GV w) : Calls Tryz.prog 56 #[.string s] w fun e w' => e = .returned (.bool (nameP s)) ∧ Ext w w' := by
  have HG := Hd.mk hg; clear hg
  by_cases h : s.size ≤ 64
  · have hl := splitP_len s
    have hN : nameP s = !((splitP s).any fun p => !partP p) := by rw [nameP, decide_eq_true h]; simp
    have HN := Hd.mk hN; clear hN
    go_enter Tryz.func56, Tryz.ntmps56
    go_wp2_with fail
    refine (split_any s _ (by omega) HG.out).mono ?_; rintro e w1 ⟨A, rfl, hA, hx1⟩
    generalize splitP s = L at *
    have HA := Hd.mk hA; clear hA
    go_wp2_with fail
    refine (badParts_any L A _ _ (by omega) HA.out).mono ?_; rintro e w2 ⟨rfl, hx2⟩
    go_wp2
    go_ret
    exact ⟨by rw [HN.out]; rfl, hx1.trans hx2⟩
  · go_enter Tryz.func56, Tryz.ntmps56
    go_wp2_with fail
    go_ret
    exact ⟨congrArg Ending.returned (vbool (by rw [nameP, decide_eq_false h]; simp)), Ext.refl _⟩
end Go.Proofs.YtfofapggmoibkaaGreatDoor
