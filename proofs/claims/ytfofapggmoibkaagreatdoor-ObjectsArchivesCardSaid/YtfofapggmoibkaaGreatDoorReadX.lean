/- The reader of package codec: what its methods return and what becomes of it. The reader of package codec: Uint, Text, Count, End. The reader of package codec: strings and counts. The reader of package codec: lists of strings. The reader of package codec: Texts and Count. -/
import Derived.Test.YtfofapggmoibkaaGreatDoorProg
import Derived.Test.YtfofapggmoibkaaGreatDoorCodecX
import Derived.BigQuiet
import Derived.Deep.QuietTactic
import Derived.Test.YtfofapggmoibkaaGreatDoorFoundB
set_option linter.unusedVariables false
set_option linter.unusedSimpArgs false
namespace Go.Proofs.YtfofapggmoibkaaGreatDoor
open Go Go.RowKit

/-- the number that is no more than the greatest int at an offset, and the offset behind it -/
def sizeO (s : ByteArray) (at_ : Nat) : Option (Nat × Nat) :=
  if (scanF s at_).2.2 = true ∧ (scanF s at_).1 < 9223372036854775808 then some ((scanF s at_).1, (scanF s at_).2.1) else none

theorem scan_at {s : ByteArray} {rb at_ : Nat} {a b : Nat} {c : Bool} (hr : scanF s at_ = (a, b, c)) (w : World) (c0 : w.cell? ⟨rb, 0, none⟩ = some (.string s)) (hs : s.size ≤ 1000000000) (ha : at_ ≤ 2000000000) :
    Calls Tryz.prog 116 #[.pointer (some ⟨rb, 0, none⟩), .int .i64 at_] w fun e w' => e = .returned (.tuple #[.int .u64 a, .int .i64 b, .bool c]) ∧ w = w' := by
  have h := scan_any s rb at_ w c0 hs ha
  rw [hr] at h
  exact h

/-- three results, the last of which is false -/
def No3i (e : Ending) : Prop := ∃ x y : Int, e = .returned (.tuple #[.int .i64 x, .int .i64 y, .bool false])

theorem scanL_bound (s : ByteArray) (at_ : Nat) : ∀ fuel k n, (scanL s at_ fuel k n).2.2 = true → at_ ≤ (scanL s at_ fuel k n).2.1 ∧ (scanL s at_ fuel k n).2.1 ≤ s.size := by
  intro fuel
  induction fuel with
  | zero => intro k n h; simp [scanL] at h
  | succ f ih =>
    intro k n h
    rw [scanL] at h ⊢
    split at h
    · simp at h
    · rename_i h1
      rw [if_neg h1]
      split at h
      · simp at h
      · rename_i h2
        rw [if_neg h2]
        split at h
        · rename_i h3
          rw [if_pos h3]
          exact ⟨by dsimp only; omega, by dsimp only; omega⟩
        · rename_i h3
          rw [if_neg h3]
          exact ih _ _ h
theorem scanL_lt (s : ByteArray) (at_ : Nat) : ∀ fuel k n, n < 128 ^ k → k + fuel ≤ 11 → (scanL s at_ fuel k n).1 < 18446744073709551616 := by
  intro fuel
  induction fuel with
  | zero => intro k n h _; simp [scanL]
  | succ f ih =>
    intro k n h hk
    rw [scanL]
    split
    · simp
    · rename_i h1
      split
      · simp
      · rename_i h2
        have hb := byt_lt s (at_ + k)
        split
        · exact (or_digit n _ k h (by omega) hb (by omega)).1
        · exact ih _ _ (pow_next _ _ _ h hb) (by omega)
theorem scan_lt (s : ByteArray) (at_ : Nat) : (scanF s at_).1 < 18446744073709551616 := scanL_lt s at_ 11 0 0 (by omega) (by omega)
theorem sizeO_bound {s : ByteArray} {at_ n next : Nat} (h : sizeO s at_ = some (n, next)) : n < 9223372036854775808 ∧ at_ ≤ next ∧ next ≤ s.size := by
  unfold sizeO at h
  split at h
  · rename_i h1
    have hb := scanL_bound s at_ 11 0 0 h1.1
    simp only [Option.some.injEq, Prod.mk.injEq] at h
    obtain ⟨rfl, rfl⟩ := h
    exact ⟨h1.2, hb⟩
  · cases h

set_option maxHeartbeats 400000 in
theorem size_ok {s : ByteArray} {rb at_ n next : Nat} (w : World) (c0 : w.cell? ⟨rb, 0, none⟩ = some (.string s)) (hs : s.size ≤ 1000000000) (ha : at_ ≤ 2000000000)
    (H : Hd (sizeO s at_ = some (n, next))) :
    Calls Tryz.prog 85 #[.pointer (some ⟨rb, 0, none⟩), .int .i64 at_] w fun e w' => e = .returned (.tuple #[.int .i64 n, .int .i64 next, .bool true]) ∧ w = w' := by
  have hlt := (sizeO_bound H.out).1
  have HS : Hd (scanF s at_ = (n, next, true)) := Hd.mk (by
    have h := H.out
    unfold sizeO at h
    split at h
    · rename_i h1
      simp only [Option.some.injEq, Prod.mk.injEq] at h
      rw [← h.1, ← h.2, ← h1.1]
    · cases h)
  clear H
  go_enter Tryz.func85, Tryz.ntmps85
  go_wp2_with (go_at_call 116; refine (scan_at HS.out _ c0 hs ha).mono ?_; rintro e _ ⟨rfl, rfl⟩)
  go_ret3
  exact ⟨ret_tup3 rfl rfl (vbool (by simp; omega)), rfl⟩
set_option maxHeartbeats 400000 in
theorem size_no {s : ByteArray} {rb at_ : Nat} (w : World) (c0 : w.cell? ⟨rb, 0, none⟩ = some (.string s)) (hs : s.size ≤ 1000000000) (ha : at_ ≤ 2000000000)
    (H : Hd (sizeO s at_ = none)) :
    Calls Tryz.prog 85 #[.pointer (some ⟨rb, 0, none⟩), .int .i64 at_] w fun e w' => No3i e ∧ w = w' := by
  obtain ⟨a, b, c, h⟩ : ∃ a b c, scanF s at_ = (a, b, c) := ⟨_, _, _, rfl⟩
  cases c with
  | false =>
    have HS := Hd.mk h; clear H h
    go_enter Tryz.func85, Tryz.ntmps85
    go_wp2_with (go_at_call 116; refine (scan_at HS.out _ c0 hs ha).mono ?_; rintro e _ ⟨rfl, rfl⟩)
    go_ret3
    exact ⟨⟨_, _, rfl⟩, rfl⟩
  | true =>
    have hge : 9223372036854775808 ≤ a := by
      have h1 := H.out
      unfold sizeO at h1
      rw [h] at h1
      rcases Nat.lt_or_ge a 9223372036854775808 with h2 | h2
      · rw [if_pos ⟨rfl, h2⟩] at h1; cases h1
      · exact h2
    have hlt : a < 18446744073709551616 := by
      have := scan_lt s at_
      rw [h] at this
      exact this
    have HS := Hd.mk h; clear H h
    go_enter Tryz.func85, Tryz.ntmps85
    go_wp2_with (go_at_call 116; refine (scan_at HS.out _ c0 hs ha).mono ?_; rintro e _ ⟨rfl, rfl⟩)
    go_ret3
    exact ⟨⟨_, _, ret_tup3 rfl rfl (vbool (by simp; omega))⟩, rfl⟩
end Go.Proofs.YtfofapggmoibkaaGreatDoor
namespace Go.Proofs.YtfofapggmoibkaaGreatDoor
open Go Go.RowKit

/-- Block rb is a reader of s at an offset, with an error. -/
def Rdr (w : World) (rb : Nat) (s : ByteArray) (st : Nat × Int) : Prop :=
  w.heap[rb]? = some (.cells #[.string s, .int .i64 st.1, .int .i64 st.2] 117 (0, 0))
theorem Rdr.lt {w : World} {rb : Nat} {s : ByteArray} {st : Nat × Int} (h : Rdr w rb s st) : rb < w.heap.size := (Array.getElem?_eq_some_iff.1 h).1
theorem Rdr.c0 {w : World} {rb : Nat} {s : ByteArray} {st : Nat × Int} (h : Rdr w rb s st) : w.cell? ⟨rb, 0, none⟩ = some (.string s) := by unfold Rdr at h; simp [World.cell?, h]
theorem Rdr.c1 {w : World} {rb : Nat} {s : ByteArray} {st : Nat × Int} (h : Rdr w rb s st) : w.cell? ⟨rb, 1, none⟩ = some (.int .i64 st.1) := by unfold Rdr at h; simp [World.cell?, h]
theorem Rdr.c2 {w : World} {rb : Nat} {s : ByteArray} {st : Nat × Int} (h : Rdr w rb s st) : w.cell? ⟨rb, 2, none⟩ = some (.int .i64 st.2) := by unfold Rdr at h; simp [World.cell?, h]
theorem Rdr.fz {w : World} {rb : Nat} {s : ByteArray} {st : Nat × Int} (h : Rdr w rb s st) (j : Nat) : w.frozen? ⟨rb, j, none⟩ = false := by unfold Rdr at h; simp [World.frozen?, h]
theorem Rdr.set1 {w : World} {rb : Nat} {s : ByteArray} {st : Nat × Int} (h : Rdr w rb s st) (a : Nat) : Rdr (w.setCell ⟨rb, 1, none⟩ (.int .i64 a)) rb s (a, st.2) := by
  unfold Rdr at h ⊢; simp [World.setCell, Array.getElem?_modify, h]
theorem Rdr.set2 {w : World} {rb : Nat} {s : ByteArray} {st : Nat × Int} (h : Rdr w rb s st) (a : Int) : Rdr (w.setCell ⟨rb, 2, none⟩ (.int .i64 a)) rb s (st.1, a) := by
  unfold Rdr at h ⊢; simp [World.setCell, Array.getElem?_modify, h]
theorem grown_setCell (w : World) (b j : Nat) (v : Value) : w.grownBy (w.setCell ⟨b, j, none⟩ v) (some b) :=
  ⟨rfl, rfl, rfl, by simp [World.setCell], fun k _ hk => Below.heap_setCell _ _ _ _ (fun e => hk (by simp [e]))⟩
theorem Rdr.far {w w1 : World} {rb : Nat} {s : ByteArray} {st : Nat × Int} (h : Rdr w rb s st) (hx : Ext w w1) : Rdr w1 rb s st := (hx.block rb h.lt).trans h
theorem grown_of_ext {w w1 : World} (h : Ext w w1) (row : Option Nat) : w.grownBy w1 row := ⟨h.os, h.tape, h.output, h.size, fun i hi _ => h.block i hi⟩
theorem grown_refl (w : World) (row : Option Nat) : w.grownBy w row := World.grownBy.refl w row

def uintS (s : ByteArray) (st : Nat × Int) : Int × (Nat × Int) :=
  if st.2 = 0 then (match sizeO s st.1 with | some (n, next) => ((n : Int), (next, 0)) | none => (0, (st.1, 9))) else (0, st)
theorem uintS_err {s : ByteArray} {st : Nat × Int} (h : st.2 ≠ 0) : uintS s st = (0, st) := by simp [uintS, h]
theorem uintS_ok {s : ByteArray} {a n next : Nat} (h : sizeO s a = some (n, next)) : uintS s (a, 0) = ((n : Int), (next, 0)) := by simp [uintS, h]
theorem uintS_no {s : ByteArray} {a : Nat} (h : sizeO s a = none) : uintS s (a, 0) = (0, (a, 9)) := by simp [uintS, h]

/-- what a reading method leaves: its result, the reader, all else as it was -/
def Read (w : World) (rb : Nat) (s : ByteArray) (v : Value) (st : Nat × Int) (e : Ending) (w' : World) : Prop := e = .returned v ∧ Rdr w' rb s st ∧ w.grownBy w' (some rb)

set_option maxRecDepth 100000 in
set_option maxHeartbeats 400000 in
theorem rUint {s : ByteArray} {rb : Nat} {st : Nat × Int} (w : World) (hR : Rdr w rb s st) (hs : s.size ≤ 1000000000) (ha : st.1 ≤ 2000000000) :
    Calls Tryz.prog 49 #[.pointer (some ⟨rb, 0, none⟩)] w (Read w rb s (.int .i64 (uintS s st).1) (uintS s st).2) := by
  have c0 := hR.c0
  have c1 := hR.c1
  have c2 := hR.c2
  have f1 := hR.fz 1
  have f2 := hR.fz 2
  have HR := Hd.mk hR; clear hR
  by_cases he : st.2 = 0
  · have he' : (st.2 != 0) = false := by simp [he]
    have hst : st = (st.1, 0) := by rw [← he]
    have HE := Hd.mk hst; clear hst he
    cases ho : sizeO s st.1 with
    | none =>
      have HO := Hd.mk ho; clear ho
      go_enter Tryz.func49, Tryz.ntmps49
      go_wp2_with (first | (go_at_call 85; refine (size_no _ c0 hs ha HO).mono ?_; rintro e _ ⟨⟨x, y, rfl⟩, rfl⟩) | go_in)
      go_ret
      exact ⟨by rw [HE.out, uintS_no HO.out]; rfl, by rw [HE.out, uintS_no HO.out]; exact HR.out.set2 9, grown_setCell _ _ _ _⟩
    | some r =>
      obtain ⟨n, next⟩ := r
      have hb := sizeO_bound ho
      have hn : n < 9223372036854775808 := hb.1
      have HO := Hd.mk ho; clear ho hb
      go_enter Tryz.func49, Tryz.ntmps49
      go_wp2_with (first | (go_at_call 85; refine (size_ok _ c0 hs ha HO).mono ?_; rintro e _ ⟨rfl, rfl⟩) | go_in)
      go_ret
      refine ⟨by rw [HE.out, uintS_ok HO.out]; rfl, ?_, grown_setCell _ _ _ _⟩
      have h := HR.out
      rw [HE.out] at h ⊢
      rw [uintS_ok HO.out]
      exact h.set1 next
  · have he' : (st.2 != 0) = true := by simp [he]
    have HE := Hd.mk he; clear he
    go_enter Tryz.func49, Tryz.ntmps49
    go_wp2_with (first | go_in)
    go_ret
    exact ⟨by rw [uintS_err HE.out]; rfl, by rw [uintS_err HE.out]; exact HR.out, grown_refl _ _⟩
end Go.Proofs.YtfofapggmoibkaaGreatDoor
namespace Go.Proofs.YtfofapggmoibkaaGreatDoor
open Go Go.RowKit

def textO (s : ByteArray) (at_ : Nat) : Option (ByteArray × Nat) :=
  match sizeO s at_ with
  | some (n, next) => if n ≤ s.size - next then some (s.extract next (next + n), next + n) else none
  | none => none
theorem textO_bound {s : ByteArray} {at_ : Nat} {x : ByteArray} {next : Nat} (h : textO s at_ = some (x, next)) : at_ ≤ next ∧ next ≤ s.size ∧ x.size ≤ s.size := by
  unfold textO at h
  cases ho : sizeO s at_ with
  | none => rw [ho] at h; cases h
  | some r =>
    obtain ⟨n, m⟩ := r
    rw [ho] at h
    have hb := sizeO_bound ho
    simp only at h
    split at h
    · simp only [Option.some.injEq, Prod.mk.injEq] at h
      obtain ⟨rfl, rfl⟩ := h
      simp; omega
    · cases h
def No3s (e : Ending) : Prop := ∃ (x : ByteArray) (y : Int), e = .returned (.tuple #[.string x, .int .i64 y, .bool false])

set_option maxRecDepth 100000 in
set_option maxHeartbeats 400000 in
theorem text_ok {s x : ByteArray} {rb at_ next : Nat} (w : World) (c0 : w.cell? ⟨rb, 0, none⟩ = some (.string s)) (hs : s.size ≤ 1000000000) (ha : at_ ≤ 2000000000)
    (H : Hd (textO s at_ = some (x, next))) :
    Calls Tryz.prog 88 #[.pointer (some ⟨rb, 0, none⟩), .int .i64 at_] w fun e w' => e = .returned (.tuple #[.string x, .int .i64 next, .bool true]) ∧ w = w' := by
  have h := H.out
  clear H
  unfold textO at h
  cases ho : sizeO s at_ with
  | none => rw [ho] at h; cases h
  | some r =>
    obtain ⟨n, m⟩ := r
    rw [ho] at h
    have hb := sizeO_bound ho
    have hm : m ≤ s.size := hb.2.2
    clear hb
    simp only at h
    split at h
    · rename_i hn
      have hn2 : m + n ≤ s.size := by omega
      simp only [Option.some.injEq, Prod.mk.injEq] at h
      have HX := Hd.mk h; clear h
      have HO := Hd.mk ho; clear ho
      go_enter Tryz.func88, Tryz.ntmps88
      go_wp2_with (go_at_call 85; refine (size_ok _ c0 hs ha HO).mono ?_; rintro e _ ⟨rfl, rfl⟩)
      go_ret3
      exact ⟨ret_tup3 (vstr HX.out.1) (vint (by rw [← HX.out.2]; simp)) rfl, rfl⟩
    · cases h
set_option maxRecDepth 100000 in
set_option maxHeartbeats 400000 in
theorem text_no {s : ByteArray} {rb at_ : Nat} (w : World) (c0 : w.cell? ⟨rb, 0, none⟩ = some (.string s)) (hs : s.size ≤ 1000000000) (ha : at_ ≤ 2000000000)
    (H : Hd (textO s at_ = none)) :
    Calls Tryz.prog 88 #[.pointer (some ⟨rb, 0, none⟩), .int .i64 at_] w fun e w' => No3s e ∧ w = w' := by
  have h := H.out
  clear H
  unfold textO at h
  cases ho : sizeO s at_ with
  | none =>
    have HO := Hd.mk ho; clear ho h
    go_enter Tryz.func88, Tryz.ntmps88
    go_wp2_with (go_at_call 85; refine (size_no _ c0 hs ha HO).mono ?_; rintro e _ ⟨⟨x, y, rfl⟩, rfl⟩)
    go_ret3
    exact ⟨⟨_, _, rfl⟩, rfl⟩
  | some r =>
    obtain ⟨n, m⟩ := r
    rw [ho] at h
    have hb := sizeO_bound ho
    have hm : m ≤ s.size := hb.2.2
    clear hb
    simp only at h
    split at h
    · cases h
    · rename_i hn
      have HO := Hd.mk ho; clear ho h
      go_enter Tryz.func88, Tryz.ntmps88
      go_wp2_with (go_at_call 85; refine (size_ok _ c0 hs ha HO).mono ?_; rintro e _ ⟨rfl, rfl⟩)
      go_ret3
      exact ⟨⟨_, _, rfl⟩, rfl⟩

def textS (s : ByteArray) (st : Nat × Int) : ByteArray × (Nat × Int) :=
  if st.2 = 0 then (match textO s st.1 with | some (n, next) => (n, (next, 0)) | none => (⟨#[]⟩, (st.1, 9))) else (⟨#[]⟩, st)
theorem textS_err {s : ByteArray} {st : Nat × Int} (h : st.2 ≠ 0) : textS s st = (⟨#[]⟩, st) := by simp [textS, h]
theorem textS_ok {s : ByteArray} {a next : Nat} {n : ByteArray} (h : textO s a = some (n, next)) : textS s (a, 0) = (n, (next, 0)) := by simp [textS, h]
theorem textS_no {s : ByteArray} {a : Nat} (h : textO s a = none) : textS s (a, 0) = (⟨#[]⟩, (a, 9)) := by simp [textS, h]

set_option maxRecDepth 100000 in
set_option maxHeartbeats 400000 in
theorem rText {s : ByteArray} {rb : Nat} {st : Nat × Int} (w : World) (hR : Rdr w rb s st) (hs : s.size ≤ 1000000000) (ha : st.1 ≤ 2000000000) :
    Calls Tryz.prog 51 #[.pointer (some ⟨rb, 0, none⟩)] w (Read w rb s (.string (textS s st).1) (textS s st).2) := by
  have c0 := hR.c0
  have c1 := hR.c1
  have c2 := hR.c2
  have f1 := hR.fz 1
  have f2 := hR.fz 2
  have HR := Hd.mk hR; clear hR
  by_cases he : st.2 = 0
  · have he' : (st.2 != 0) = false := by simp [he]
    have hst : st = (st.1, 0) := by rw [← he]
    have HE := Hd.mk hst; clear hst he
    cases ho : textO s st.1 with
    | none =>
      have HO := Hd.mk ho; clear ho
      go_enter Tryz.func51, Tryz.ntmps51
      go_wp2_with (first | (go_at_call 88; refine (text_no _ c0 hs ha HO).mono ?_; rintro e _ ⟨⟨x, y, rfl⟩, rfl⟩) | go_in)
      go_ret
      exact ⟨by rw [HE.out, textS_no HO.out]; rfl, by rw [HE.out, textS_no HO.out]; exact HR.out.set2 9, grown_setCell _ _ _ _⟩
    | some r =>
      obtain ⟨n, next⟩ := r
      have HO := Hd.mk ho; clear ho
      go_enter Tryz.func51, Tryz.ntmps51
      go_wp2_with (first | (go_at_call 88; refine (text_ok _ c0 hs ha HO).mono ?_; rintro e _ ⟨rfl, rfl⟩) | go_in)
      go_ret
      refine ⟨by rw [HE.out, textS_ok HO.out]; rfl, ?_, grown_setCell _ _ _ _⟩
      have h := HR.out
      rw [HE.out] at h ⊢
      rw [textS_ok HO.out]
      exact h.set1 next
  · have he' : (st.2 != 0) = true := by simp [he]
    have HE := Hd.mk he; clear he
    go_enter Tryz.func51, Tryz.ntmps51
    go_wp2_with (first | go_in)
    go_ret
    exact ⟨by rw [textS_err HE.out]; rfl, by rw [textS_err HE.out]; exact HR.out, grown_refl _ _⟩

theorem newReader (s : ByteArray) (w : World) :
    Calls Tryz.prog 48 #[.string s] w fun e w' => e = .returned (.pointer (some ⟨w.heap.size, 0, none⟩)) ∧ Rdr w' w.heap.size s (0, 0) ∧ Ext w w' := by
  go_enter Tryz.func48, Tryz.ntmps48
  go_wp2
  go_ret
  exact ⟨rfl, heap_alloc_new _ _, (Ext.refl w).alloc _⟩

def endS (s : ByteArray) (st : Nat × Int) : Int := if st.2 = 0 ∧ st.1 < s.size then 9 else st.2
set_option maxRecDepth 100000 in
set_option maxHeartbeats 400000 in
theorem rEnd {s : ByteArray} {rb : Nat} {st : Nat × Int} (w : World) (hR : Rdr w rb s st) (hs : s.size ≤ 1000000000) (ha : st.1 ≤ 2000000000) :
    Calls Tryz.prog 52 #[.pointer (some ⟨rb, 0, none⟩)] w fun e w' => e = .returned (.int .i64 (endS s st)) ∧ Ext w w' := by
  have c0 := hR.c0
  have c1 := hR.c1
  have c2 := hR.c2
  clear hR
  by_cases he : st.2 = 0
  · by_cases hl : st.1 < s.size
    · have hE : endS s st = 9 := by simp [endS, he, hl]
      have he' : (st.2 == 0) = true := by simp [he]
      have HE := Hd.mk hE; clear hE he
      go_enter Tryz.func52, Tryz.ntmps52
      go_wp2
      go_quiet (fail)
      go_wp2
      go_ret
      exact ⟨by rw [HE.out]; rfl, (Ext.refl w).drewN _⟩
    · have hE : endS s st = st.2 := by simp [endS, hl]
      have he' : (st.2 == 0) = true := by simp [he]
      have HE := Hd.mk hE; clear hE he
      go_enter Tryz.func52, Tryz.ntmps52
      go_wp2
      go_quiet (fail)
      go_wp2
      go_ret
      exact ⟨by rw [HE.out]; rfl, (Ext.refl w).drewN _⟩
  · have hE : endS s st = st.2 := by simp [endS, he]
    have he' : (st.2 == 0) = false := by simp [he]
    have HE := Hd.mk hE; clear hE he
    go_enter Tryz.func52, Tryz.ntmps52
    go_wp2
    go_quiet (fail)
    go_wp2
    go_ret
    exact ⟨by rw [HE.out]; rfl, (Ext.refl w).drewN _⟩
end Go.Proofs.YtfofapggmoibkaaGreatDoor
namespace Go.Proofs.YtfofapggmoibkaaGreatDoor
open Go Go.RowKit

/-- k strings, one behind the other -/
def textsL (s : ByteArray) : Nat → Nat → Option (List ByteArray × Nat)
  | 0, at_ => some ([], at_)
  | k + 1, at_ => match textO s at_ with
    | some (x, next) => match textsL s k next with
      | some (l, after) => some (x :: l, after)
      | none => none
    | none => none
def textsO (s : ByteArray) (at_ : Nat) : Option (List ByteArray × Nat) :=
  match sizeO s at_ with
  | some (n, next) => if n ≤ s.size - next then textsL s n next else none
  | none => none
theorem textsL_len {s : ByteArray} : ∀ {k at_ : Nat} {l : List ByteArray} {after : Nat}, textsL s k at_ = some (l, after) → l.length = k ∧ at_ ≤ after ∧ (at_ ≤ s.size → after ≤ s.size) ∧ ∀ x ∈ l, x.size ≤ s.size
  | 0, at_, l, after, h => by
    simp only [textsL, Option.some.injEq, Prod.mk.injEq] at h
    obtain ⟨rfl, rfl⟩ := h
    simp
  | k + 1, at_, l, after, h => by
    simp only [textsL] at h
    cases ht : textO s at_ with
    | none => rw [ht] at h; cases h
    | some r =>
      obtain ⟨x, next⟩ := r
      rw [ht] at h
      simp only at h
      cases hl : textsL s k next with
      | none => rw [hl] at h; cases h
      | some r =>
        obtain ⟨l', a'⟩ := r
        rw [hl] at h
        simp only [Option.some.injEq, Prod.mk.injEq] at h
        obtain ⟨rfl, rfl⟩ := h
        have hb := textO_bound ht
        have hr := textsL_len hl
        refine ⟨by simp [hr.1], by omega, fun _ => hr.2.2.1 hb.2.1, ?_⟩
        intro y hy
        rcases List.mem_cons.1 hy with rfl | hy
        · exact hb.2.2
        · exact hr.2.2.2 y hy
theorem info_str : (Tryz.prog.info? 9).map (fun i => (i.zero, i.size, i.bytes)) = some (some (Value.string ⟨#[]⟩), 1, 16) := by kernel_rfl

/-- after i rounds: what was read, and the zeros behind it -/
def filled (l : List ByteArray) (n : Nat) : Array Value := (strs l ++ List.replicate (n - l.length) (Value.string ⟨#[]⟩)).toArray
theorem filled_size (l : List ByteArray) (n : Nat) (h : l.length ≤ n) : (filled l n).size = n := by simp [filled, strs]; omega
theorem filled_at (l : List ByteArray) (n : Nat) (h : l.length < n) : (filled l n)[l.length]? = some (.string ⟨#[]⟩) := by
  simp [filled, strs, List.getElem?_append, List.getElem?_replicate]; omega
theorem filled_set (l : List ByteArray) (n : Nat) (x : ByteArray) (h : l.length < n) : (filled l n).setIfInBounds l.length (.string x) = filled (l ++ [x]) n := by
  apply Array.ext'
  simp [filled, strs, List.set_append]
  obtain ⟨k, hk⟩ : ∃ k, n - l.length = k + 1 := ⟨n - l.length - 1, by omega⟩
  rw [hk, List.replicate_succ, List.set_cons_zero, show n - (l.length + 1) = k by omega]

theorem filled_nil (n : Nat) : filled [] n = Array.replicate n (Value.string ⟨#[]⟩) := by apply Array.ext'; simp [filled, strs]
theorem filled_all (l : List ByteArray) : filled l l.length = (strs l).toArray := by simp [filled]
/-- what is left to read, from here on -/
def restO (s : ByteArray) (l : List ByteArray) (k at_ : Nat) : Option (List ByteArray × Nat) := (textsL s k at_).map fun r => (l ++ r.1, r.2)
theorem restO_step {s : ByteArray} {l : List ByteArray} {k at_ next : Nat} {x : ByteArray} (h : textO s at_ = some (x, next)) : restO s l (k + 1) at_ = restO s (l ++ [x]) k next := by
  simp only [restO, textsL, h]
  cases textsL s k next <;> simp
theorem restO_no {s : ByteArray} {l : List ByteArray} {k at_ : Nat} (h : textO s at_ = none) : restO s l (k + 1) at_ = none := by simp [restO, textsL, h]
theorem restO_all {s : ByteArray} {l : List ByteArray} {at_ : Nat} : restO s l 0 at_ = some (l, at_) := by simp [restO, textsL]

/-- what Texts$1 hands back -/
def TextsPost (w : World) (r : Option (List ByteArray × Nat)) (e : Ending) (w' : World) : Prop :=
  Ext w w' ∧ match r with
  | some (l, next) => ∃ g, w.heap.size ≤ g ∧ w'.heap[g]? = some (.cells (strs l).toArray 9 (0, 0)) ∧ e = .returned (.tuple #[.slice (some ⟨g, 0, none⟩) l.length l.length, .int .i64 next, .bool true])
  | none => e = .returned (.tuple #[.slice none 0 0, .int .i64 0, .bool false])

set_option maxRecDepth 100000 in
set_option maxHeartbeats 1000000 in
theorem texts_fn {s : ByteArray} {rb cb at_ : Nat} (w : World) (c0 : w.cell? ⟨rb, 0, none⟩ = some (.string s)) (cc : w.cell? ⟨cb, 0, none⟩ = some (.pointer (some ⟨rb, 0, none⟩)))
    (hs : s.size ≤ 1000000000) (ha : at_ ≤ 2000000000) {n next : Nat} (HO : Hd (sizeO s at_ = some (n, next))) (hn : n ≤ s.size - next) :
    Calls Tryz.prog 87 #[.int .i64 at_, .pointer (some ⟨cb, 0, none⟩)] w (TextsPost w (textsL s n next)) := by
  have hm : next ≤ s.size := (sizeO_bound HO.out).2.2
  go_enter Tryz.func87, Tryz.ntmps87
  go_wp2_with (first | (go_at_call 85; refine (size_ok _ c0 hs ha HO).mono ?_; rintro e _ ⟨rfl, rfl⟩) | (at_make; go_must (refine mk1 rfl _ _ 22 9 (.string ⟨#[]⟩) 16 rfl Tryz.underlying22 info_str rfl n rfl rfl (by omega) (by omega) ?_); intro w1 hb1 hx1 hlt1))
  have HX1 := Hd.mk hx1; clear hx1
  have HB1 := Hd.mk hb1; clear hb1
  have C0 := Hd.mk c0; clear c0
  have CC := Hd.mk cc; clear cc
  go_loopw [0, 7, 34] (fun a ok i wr => ∃ (l : List ByteArray) (at1 : Nat), a = .int .i64 at1 ∧ ok = .bool true ∧ i = .int .i64 (l.length : Int) ∧ l.length ≤ n ∧ at1 ≤ s.size ∧ restO s l (n - l.length) at1 = textsL s n next ∧
      wr.heap[w.heap.size]? = some (.cells (filled l n) 9 (0, 0)) ∧ Ext w wr) (fun _ _ i _ => n - (intOf i).toNat)
  case atStart => exact ⟨[], next, rfl, rfl, rfl, by simp, hm, by simp [restO], by rw [filled_nil]; exact HB1.out, HX1.out⟩
  case round =>
    obtain ⟨l, at1, rfl, rfl, rfl, hl, hat, hrest, hbk, hgw⟩ := hrel
    have c0 := hgw.cell C0.out
    have cc := hgw.cell CC.out
    have HR := Hd.mk hrest; clear hrest
    have HB := Hd.mk hbk; clear hbk
    by_cases hlt : l.length < n
    · have hcl := cell_of HB.out (filled_at l n hlt)
      have hfr := free_of HB.out l.length
      cases ht : textO s at1 with
      | none =>
        have HT := Hd.mk ht; clear ht
        go_wp2_with (first | (go_at_call 88; refine (text_no _ c0 hs (by omega) HT).mono ?_; rintro e _ ⟨⟨x, y, rfl⟩, rfl⟩))
        go_ret3
        have hz : textsL s n next = none := by
          rw [← HR.out]
          obtain ⟨k, hk⟩ : ∃ k, n - l.length = k + 1 := ⟨n - l.length - 1, by omega⟩
          rw [hk, restO_no HT.out]
        rw [hz]
        exact ⟨hgw.set (Nat.le_refl _) _ _, rfl⟩
      | some r =>
        obtain ⟨x, nx⟩ := r
        have hbn := textO_bound ht
        have HT := Hd.mk ht; clear ht
        go_wp2_with (first | (go_at_call 88; refine (text_ok _ c0 hs (by omega) HT).mono ?_; rintro e _ ⟨rfl, rfl⟩))
        go_roundw
        case rel =>
          refine ⟨l ++ [x], nx, rfl, rfl, vint (by simp), by rw [List.length_append, List.length_singleton]; omega, hbn.2.1, ?_, ?_, hgw.set (Nat.le_refl _) _ _⟩
          · rw [← HR.out]
            obtain ⟨k, hk⟩ : ∃ k, n - l.length = k + 1 := ⟨n - l.length - 1, by omega⟩
            rw [hk, restO_step HT.out, List.length_append, List.length_singleton, show n - (l.length + 1) = k by omega]
          · rw [set_block HB.out, filled_set l n x hlt]
        case measure => simp only [intOf]; omega
    · obtain rfl : n = l.length := by omega
      go_wp2
      go_ret3
      have hz : textsL s l.length next = some (l, at1) := by
        rw [← HR.out, Nat.sub_self, restO_all]
      rw [hz]
      exact ⟨hgw, w.heap.size, Nat.le_refl _, by rw [← filled_all]; exact HB.out, rfl⟩

set_option maxRecDepth 100000 in
set_option maxHeartbeats 1000000 in
theorem texts_any {s : ByteArray} {rb cb at_ : Nat} (w : World) (c0 : w.cell? ⟨rb, 0, none⟩ = some (.string s)) (cc : w.cell? ⟨cb, 0, none⟩ = some (.pointer (some ⟨rb, 0, none⟩)))
    (hs : s.size ≤ 1000000000) (ha : at_ ≤ 2000000000) :
    Calls Tryz.prog 87 #[.int .i64 at_, .pointer (some ⟨cb, 0, none⟩)] w (TextsPost w (textsO s at_)) := by
  unfold textsO
  cases ho : sizeO s at_ with
  | none =>
    have HO := Hd.mk ho; clear ho
    go_enter Tryz.func87, Tryz.ntmps87
    go_wp2_with (first | (go_at_call 85; refine (size_no _ c0 hs ha HO).mono ?_; rintro e _ ⟨⟨x, y, rfl⟩, rfl⟩))
    go_ret3
    exact ⟨Ext.refl _, rfl⟩
  | some r =>
    obtain ⟨n, next⟩ := r
    have hm : next ≤ s.size := (sizeO_bound ho).2.2
    have HO := Hd.mk ho; clear ho
    by_cases hn : n ≤ s.size - next
    · simp only [hn, if_true]
      exact texts_fn w c0 cc hs ha HO hn
    · simp only [hn, if_false]
      go_enter Tryz.func87, Tryz.ntmps87
      go_wp2_with (first | (go_at_call 85; refine (size_ok _ c0 hs ha HO).mono ?_; rintro e _ ⟨rfl, rfl⟩))
      go_ret3
      exact ⟨Ext.refl _, rfl⟩
end Go.Proofs.YtfofapggmoibkaaGreatDoor
namespace Go.Proofs.YtfofapggmoibkaaGreatDoor
open Go Go.RowKit

def textsS (s : ByteArray) (st : Nat × Int) : List ByteArray × (Nat × Int) :=
  if st.2 = 0 then (match textsO s st.1 with | some (n, next) => (n, (next, 0)) | none => ([], (st.1, 9))) else ([], st)
theorem textsS_err {s : ByteArray} {st : Nat × Int} (h : st.2 ≠ 0) : textsS s st = ([], st) := by simp [textsS, h]
theorem textsS_ok {s : ByteArray} {a next : Nat} {n : List ByteArray} (h : textsO s a = some (n, next)) : textsS s (a, 0) = (n, (next, 0)) := by simp [textsS, h]
theorem textsS_no {s : ByteArray} {a : Nat} (h : textsO s a = none) : textsS s (a, 0) = ([], (a, 9)) := by simp [textsS, h]
def ReadL (w : World) (rb : Nat) (s : ByteArray) (l : List ByteArray) (st : Nat × Int) (e : Ending) (w' : World) : Prop := ∃ v, e = .returned v ∧ SlS w' v l ∧ FreshV w.heap.size v ∧ Rdr w' rb s st ∧ w.grownBy w' (some rb)
theorem grown_trans {a b c : World} {r : Option Nat} (h : a.grownBy b r) (k : b.grownBy c r) : a.grownBy c r := World.grownBy.trans h k

set_option maxRecDepth 100000 in
set_option maxHeartbeats 1000000 in
theorem rTexts {s : ByteArray} {rb : Nat} {st : Nat × Int} (w : World) (hR : Rdr w rb s st) (hs : s.size ≤ 1000000000) (ha : st.1 ≤ 2000000000) :
    Calls Tryz.prog 50 #[.pointer (some ⟨rb, 0, none⟩)] w (ReadL w rb s (textsS s st).1 (textsS s st).2) := by
  have hlt := hR.lt
  have c0 := hR.c0
  have c1 := hR.c1
  have c2 := hR.c2
  have f1 := hR.fz 1
  have f2 := hR.fz 2
  have HR := Hd.mk hR; clear hR
  by_cases he : st.2 = 0
  · have he' : (st.2 != 0) = false := by simp [he]
    have hst : st = (st.1, 0) := by rw [← he]
    have HE := Hd.mk hst; clear hst he
    have hx0 : Ext w (w.alloc (.cells #[.pointer (some ⟨rb, 0, none⟩)] 70)) := (Ext.refl w).alloc _
    have HX0 := Hd.mk hx0; clear hx0
    cases ho : textsO s st.1 with
    | none =>
      have HO := Hd.mk ho; clear ho
      go_enter Tryz.func50, Tryz.ntmps50
      go_wp2_with (first | (go_at_call 87; go_must (refine (texts_any (at_ := st.1) _ (HX0.out.cell HR.out.c0) (cell_of (heap_alloc_new _ _) rfl) hs ha).mono ?_); rw [HO.out]; rintro e w1 ⟨hx1, rfl⟩; have R1 := Hd.mk (HR.out.far (HX0.out.trans hx1)); have HX1 := Hd.mk hx1; have d1 := R1.out.c1; have d2 := R1.out.c2; have g2 := R1.out.fz 2) | go_in)
      go_ret
      refine ⟨_, rfl, by rw [HE.out, textsS_no HO.out]; exact SlS.nil _, FreshV.nil _ _ _, ?_, grown_trans (grown_of_ext (HX0.out.trans HX1.out) _) (grown_setCell _ _ _ _)⟩
      rw [HE.out, textsS_no HO.out]
      exact R1.out.set2 9
    | some r =>
      obtain ⟨n, next⟩ := r
      have HO := Hd.mk ho; clear ho
      go_enter Tryz.func50, Tryz.ntmps50
      go_wp2_with (first | (go_at_call 87; go_must (refine (texts_any (at_ := st.1) _ (HX0.out.cell HR.out.c0) (cell_of (heap_alloc_new _ _) rfl) hs ha).mono ?_); rw [HO.out]; rintro e w1 ⟨hx1, g, hg, hbg, rfl⟩; have R1 := Hd.mk (HR.out.far (HX0.out.trans hx1)); have HX1 := Hd.mk hx1; have d1 := R1.out.c1; have d2 := R1.out.c2; have g1 := R1.out.fz 1; have HBG := Hd.mk hbg; clear hbg) | go_in)
      go_ret
      have hgs : g ≠ rb := by
        have := hg
        simp only [World.alloc, Array.size_push] at this
        omega
      refine ⟨_, rfl, ?_, FreshV.of (by have := hg; simp at this; omega), ?_, grown_trans (grown_of_ext (HX0.out.trans HX1.out) _) (grown_setCell _ _ _ _)⟩
      · rw [HE.out, textsS_ok HO.out]
        exact SlS.block (by rw [set_other _ hgs]; exact HBG.out)
      · have h := R1.out
        rw [HE.out] at h ⊢
        rw [textsS_ok HO.out]
        exact h.set1 next
  · have he' : (st.2 != 0) = true := by simp [he]
    have HE := Hd.mk he; clear he
    go_enter Tryz.func50, Tryz.ntmps50
    go_wp2_with (first | go_in)
    go_ret
    exact ⟨_, rfl, by rw [textsS_err HE.out]; exact SlS.nil _, FreshV.nil _ _ _, by rw [textsS_err HE.out]; exact HR.out.far ((Ext.refl w).alloc _), grown_of_ext ((Ext.refl w).alloc _) _⟩

/-! Count -/
def countO (s : ByteArray) (most at_ : Nat) : Option (Nat × Nat) :=
  match sizeO s at_ with
  | some (n, next) => if n ≤ most then some (n, next) else none
  | none => none
theorem countO_some {s : ByteArray} {most at_ n next : Nat} (h : countO s most at_ = some (n, next)) : sizeO s at_ = some (n, next) ∧ n ≤ most := by
  unfold countO at h
  cases ho : sizeO s at_ with
  | none => rw [ho] at h; cases h
  | some r =>
    obtain ⟨a, b⟩ := r
    rw [ho] at h
    simp only at h
    split at h
    · simp only [Option.some.injEq, Prod.mk.injEq] at h
      obtain ⟨rfl, rfl⟩ := h
      exact ⟨rfl, by assumption⟩
    · cases h
set_option maxRecDepth 100000 in
set_option maxHeartbeats 1000000 in
theorem count_ok {s : ByteArray} {rb cb mb at_ most n next : Nat} (w : World) (c0 : w.cell? ⟨rb, 0, none⟩ = some (.string s)) (cc : w.cell? ⟨cb, 0, none⟩ = some (.pointer (some ⟨rb, 0, none⟩)))
    (cm : w.cell? ⟨mb, 0, none⟩ = some (.int .i64 most)) (hs : s.size ≤ 1000000000) (ha : at_ ≤ 2000000000) (H : Hd (countO s most at_ = some (n, next))) :
    Calls Tryz.prog 97 #[.int .i64 at_, .pointer (some ⟨cb, 0, none⟩), .pointer (some ⟨mb, 0, none⟩)] w fun e w' => e = .returned (.tuple #[.int .i64 n, .int .i64 next, .bool true]) ∧ Ext w w' := by
  obtain ⟨h1, h2⟩ := countO_some H.out
  have HO := Hd.mk h1; clear h1 H
  go_enter Tryz.func97, Tryz.ntmps97
  go_wp2_with (first | (go_at_call 85; refine (size_ok _ c0 hs ha HO).mono ?_; rintro e _ ⟨rfl, rfl⟩))
  have hb : decide ((n : Int) ≤ (most : Int)) = true := by simp; omega
  go_quiet (fail)
  go_wp2
  go_ret3
  exact ⟨ret_tup3 rfl rfl (vbool (by simp)), (Ext.refl w).drewN _⟩
set_option maxRecDepth 100000 in
set_option maxHeartbeats 1000000 in
theorem count_no {s : ByteArray} {rb cb mb at_ most : Nat} (w : World) (c0 : w.cell? ⟨rb, 0, none⟩ = some (.string s)) (cc : w.cell? ⟨cb, 0, none⟩ = some (.pointer (some ⟨rb, 0, none⟩)))
    (cm : w.cell? ⟨mb, 0, none⟩ = some (.int .i64 most)) (hs : s.size ≤ 1000000000) (ha : at_ ≤ 2000000000) (H : Hd (countO s most at_ = none)) :
    Calls Tryz.prog 97 #[.int .i64 at_, .pointer (some ⟨cb, 0, none⟩), .pointer (some ⟨mb, 0, none⟩)] w fun e w' => No3i e ∧ Ext w w' := by
  cases ho : sizeO s at_ with
  | none =>
    have HO := Hd.mk ho; clear ho H
    go_enter Tryz.func97, Tryz.ntmps97
    go_wp2_with (first | (go_at_call 85; refine (size_no _ c0 hs ha HO).mono ?_; rintro e _ ⟨⟨x, y, rfl⟩, rfl⟩))
    go_quiet (fail)
    go_wp2
    go_ret3
    exact ⟨⟨_, _, rfl⟩, (Ext.refl w).drewN _⟩
  | some r =>
    obtain ⟨n, next⟩ := r
    have h2 : ¬ n ≤ most := by
      intro h
      have := H.out
      unfold countO at this
      rw [ho] at this
      simp [h] at this
    have HO := Hd.mk ho; clear ho H
    go_enter Tryz.func97, Tryz.ntmps97
    go_wp2_with (first | (go_at_call 85; refine (size_ok _ c0 hs ha HO).mono ?_; rintro e _ ⟨rfl, rfl⟩))
    have hb : decide ((n : Int) ≤ (most : Int)) = false := by simp; omega
    go_quiet (fail)
    go_wp2
    go_ret3
    exact ⟨⟨_, _, ret_tup3 rfl rfl (vbool (by simp))⟩, (Ext.refl w).drewN _⟩

def countS (s : ByteArray) (most : Nat) (st : Nat × Int) : Int × (Nat × Int) :=
  if st.2 = 0 then (match countO s most st.1 with | some (n, next) => ((n : Int), (next, 0)) | none => (0, (st.1, 9))) else (0, st)
theorem countS_err {s : ByteArray} {most : Nat} {st : Nat × Int} (h : st.2 ≠ 0) : countS s most st = (0, st) := by simp [countS, h]
theorem countS_ok {s : ByteArray} {most a n next : Nat} (h : countO s most a = some (n, next)) : countS s most (a, 0) = ((n : Int), (next, 0)) := by simp [countS, h]
theorem countS_no {s : ByteArray} {most a : Nat} (h : countO s most a = none) : countS s most (a, 0) = (0, (a, 9)) := by simp [countS, h]

set_option maxRecDepth 100000 in
set_option maxHeartbeats 1000000 in
theorem rCount {s : ByteArray} {rb : Nat} {st : Nat × Int} (most : Nat) (w : World) (hR : Rdr w rb s st) (hs : s.size ≤ 1000000000) (ha : st.1 ≤ 2000000000) :
    Calls Tryz.prog 61 #[.pointer (some ⟨rb, 0, none⟩), .int .i64 most] w (Read w rb s (.int .i64 (countS s most st).1) (countS s most st).2) := by
  have hlt := hR.lt
  have c0 := hR.c0
  have c1 := hR.c1
  have c2 := hR.c2
  have f1 := hR.fz 1
  have f2 := hR.fz 2
  have HR := Hd.mk hR; clear hR
  have hx0 : Ext w ((w.alloc (.cells #[.pointer (some ⟨rb, 0, none⟩)] 70)).alloc (.cells #[.int .i64 most] 3)) := ((Ext.refl w).alloc _).alloc _
  have HX0 := Hd.mk hx0; clear hx0
  have k1 : ((w.alloc (.cells #[.pointer (some ⟨rb, 0, none⟩)] 70)).alloc (.cells #[.int .i64 most] 3)).cell? ⟨w.heap.size, 0, none⟩ = some (.pointer (some ⟨rb, 0, none⟩)) := by
    exact cell_of ((heap_alloc_old _ _ (by simp [World.alloc_eq])).trans (heap_alloc_new _ _)) rfl
  have k2 : ((w.alloc (.cells #[.pointer (some ⟨rb, 0, none⟩)] 70)).alloc (.cells #[.int .i64 most] 3)).cell? ⟨w.heap.size + 1, 0, none⟩ = some (.int .i64 most) := by
    exact cell_of (b := w.heap.size + 1) (by have := heap_alloc_new (w.alloc (.cells #[.pointer (some ⟨rb, 0, none⟩)] 70)) (.cells #[.int .i64 most] 3); simpa [World.alloc_eq] using this) rfl
  have K1 := Hd.mk k1; clear k1
  have K2 := Hd.mk k2; clear k2
  by_cases he : st.2 = 0
  · have he' : (st.2 != 0) = false := by simp [he]
    have hst : st = (st.1, 0) := by rw [← he]
    have HE := Hd.mk hst; clear hst he
    cases ho : countO s most st.1 with
    | none =>
      have HO := Hd.mk ho; clear ho
      go_enter Tryz.func61, Tryz.ntmps61
      go_wp2_with (first | (go_at_call 97; go_must (refine (count_no (at_ := st.1) _ (HX0.out.cell HR.out.c0) K1.out K2.out hs ha HO).mono ?_); rintro e w1 ⟨⟨x, y, rfl⟩, hx1⟩; have R1 := Hd.mk (HR.out.far (HX0.out.trans hx1)); have HX1 := Hd.mk hx1; have d1 := R1.out.c1; have d2 := R1.out.c2; have g2 := R1.out.fz 2) | go_in)
      go_ret
      refine ⟨by rw [HE.out, countS_no HO.out]; rfl, ?_, grown_trans (grown_of_ext (HX0.out.trans HX1.out) _) (grown_setCell _ _ _ _)⟩
      rw [HE.out, countS_no HO.out]
      exact R1.out.set2 9
    | some r =>
      obtain ⟨n, next⟩ := r
      have HO := Hd.mk ho; clear ho
      go_enter Tryz.func61, Tryz.ntmps61
      go_wp2_with (first | (go_at_call 97; go_must (refine (count_ok (at_ := st.1) _ (HX0.out.cell HR.out.c0) K1.out K2.out hs ha HO).mono ?_); rintro e w1 ⟨rfl, hx1⟩; have R1 := Hd.mk (HR.out.far (HX0.out.trans hx1)); have HX1 := Hd.mk hx1; have d1 := R1.out.c1; have d2 := R1.out.c2; have g1 := R1.out.fz 1) | go_in)
      go_ret
      refine ⟨by rw [HE.out, countS_ok HO.out]; rfl, ?_, grown_trans (grown_of_ext (HX0.out.trans HX1.out) _) (grown_setCell _ _ _ _)⟩
      have h := R1.out
      rw [HE.out] at h ⊢
      rw [countS_ok HO.out]
      exact h.set1 next
  · have he' : (st.2 != 0) = true := by simp [he]
    have HE := Hd.mk he; clear he
    go_enter Tryz.func61, Tryz.ntmps61
    go_wp2_with (first | go_in)
    go_ret
    exact ⟨by rw [countS_err HE.out]; rfl, by rw [countS_err HE.out]; exact HR.out.far HX0.out, grown_of_ext HX0.out _⟩
end Go.Proofs.YtfofapggmoibkaaGreatDoor
