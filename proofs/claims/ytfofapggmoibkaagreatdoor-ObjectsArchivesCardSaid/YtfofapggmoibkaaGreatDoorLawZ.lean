/- ObjectsArchives, walked: it answers true, and nothing below the heap's end has turned. -/
import Derived.Test.YtfofapggmoibkaaGreatDoorProg
import Derived.Test.YtfofapggmoibkaaGreatDoorLawY
import Derived.Test.YtfofapggmoibkaaGreatDoorRefZ
set_option linter.unusedVariables false
set_option linter.unusedSimpArgs false
namespace Go.Proofs.YtfofapggmoibkaaGreatDoor
open Go Go.RowKit

theorem archiveR_is (fs : List FileT) (z : Value) (H : Hd (arcR fs = z)) (A : Option Addr) (c : Nat) (w : World) (hn : fs.length ≤ 1000) (hB : ∀ f ∈ fs, f.1.size ≤ 1000000 ∧ f.2.size ≤ 1000000) (hA : RowAt w A (fcells fs)) :
    Calls Tryz.prog 20 #[.slice A fs.length c] w fun e w' => e = .returned z ∧ Ext w w' := by
  rw [← H.out]; exact archiveR_any fs A c w hn hB hA
theorem filesR_is (o : Obj) (r : Int × List FileT) (H : Hd (filesO o = r)) (A : Option Addr) (c : Nat) (w : World) (hl : o.refs.length ≤ 9223372036854775807) (hd : o.data.size ≤ 9223372036854775807) (hA : StrsAt w A o.refs) :
    Calls Tryz.prog 22 #[.agg #[.int .i64 o.kind, .slice A o.refs.length c, .string o.data]] w (FilesPost w r) := by
  rw [← H.out]; exact filesR_any o A c w hl hd hA
theorem filesO_len (o : Obj) : (filesO o).2.length ≤ 32 := by
  unfold filesO
  split
  · split
    · have h := countS_in (s := o.data) (most := 32) (st := (0, 0)) (Nat.zero_le _)
      show (filesL o).1.length ≤ 32
      rw [filesL, pairsS_len]; omega
    · simp
  · simp
set_option maxRecDepth 100000 in
set_option maxHeartbeats 8000000 in
theorem archives_any (fs : List FileT) (A' : Option Addr) (c' : Nat) (o : Obj) (A : Option Addr) (c : Nat) (w : World)
    (hl' : fs.length ≤ 9223372036854775807) (hM' : ∀ f ∈ fs, f.1.size ≤ 140737488355328 ∧ f.2.size ≤ 140737488355328) (hA' : RowAt w A' (fcells fs))
    (hl : o.refs.length ≤ 9223372036854775807) (hd : o.data.size ≤ 9223372036854775807) (hM : ∀ x ∈ o.refs, x.size ≤ 140737488355328) (hA : StrsAt w A o.refs) (hg : GV w) :
    Calls Tryz.prog 4 #[.slice A' fs.length c', .agg #[.int .i64 o.kind, .slice A o.refs.length c, .string o.data]] w fun e w' => e = .returned (.bool true) ∧ Ext w w' := by
  have HG := Hd.mk hg; have HA := Hd.mk hA; have HM := Hd.mk hM; have HA' := Hd.mk hA'; have HM' := Hd.mk hM'; clear hg hA hM hA' hM'
  have HC : Hd (∀ w', Ext (w.alloc (.cells #[.int .i64 o.kind, .slice A o.refs.length c, .string o.data] 24)) w' → w'.heap[w.heap.size]? = some (.cells (objC o A c) 24 (0, 0)) ∧ StrsAt w' A o.refs ∧ Ext w w' ∧ RowAt w' A' (fcells fs) ∧ GV w') := ⟨fun w' hx => ⟨hx.obj (heap_alloc_new w _), HA.out.ext (((Ext.refl w).alloc _).trans hx), ((Ext.refl w).alloc _).trans hx, HA'.out.ext (((Ext.refl w).alloc _).trans hx), HG.out.ext (((Ext.refl w).alloc _).trans hx)⟩⟩
  go_enter Tryz.func4, Tryz.ntmps4
  go_wp2_with fail
  refine (awake_any _ (HG.out.ext ((Ext.refl w).alloc _))).mono ?_; rintro e w1 ⟨rfl, hx1⟩
  have HX1 := Hd.mk hx1; clear hx1 HA HG HA'
  cases hff : fewF fs with
  | false =>
    have HFF := Hd.mk hff; clear hff
    go_wp2_with fail
    refine (fewFiles_is fs false HFF A' c' _ hl' HM'.out (HC.out _ HX1.out).2.2.2.1).mono ?_; rintro e w2 ⟨rfl, hx2⟩
    have HX2 := Hd.mk (HX1.out.trans hx2); clear hx2
    go_wp2
    go_ret
    exact ⟨rfl, (HC.out _ HX2.out).2.2.1⟩
  | true =>
    obtain ⟨fl, fz⟩ := fewF_ok hff
    have HFF := Hd.mk hff; have HFZ := Hd.mk fz; clear hff fz
    go_wp2_with fail
    refine (fewFiles_is fs true HFF A' c' _ hl' HM'.out (HC.out _ HX1.out).2.2.2.1).mono ?_; rintro e w2 ⟨rfl, hx2⟩
    have HX2 := Hd.mk (HX1.out.trans hx2); clear hx2 HX1
    have h2 := (HC.out _ HX2.out).1
    have q0 := cell_of h2 (j := 0) (v := .int .i64 o.kind) rfl
    have q1 := cell_of h2 (j := 1) (v := .slice A o.refs.length c) rfl
    have q2 := cell_of h2 (j := 2) (v := .string o.data) rfl
    clear h2
    cases hf : fewO o with
    | false =>
      have HF := Hd.mk hf; clear hf
      go_wp2_with fail
      refine (few_is o false HF A c _ hl hd HM.out (HC.out _ HX2.out).2.1).mono ?_; rintro e w3 ⟨rfl, hx3⟩
      have HX3 := Hd.mk (HX2.out.trans hx3); clear hx3
      go_wp2
      go_ret
      exact ⟨rfl, (HC.out _ HX3.out).2.2.1⟩
    | true =>
      have HF := Hd.mk hf; clear hf
      obtain ⟨sa, hsa⟩ := arcR_form fs
      obtain ⟨r1, r2, hr⟩ : ∃ r1 r2, filesO o = (r1, r2) := ⟨_, _, rfl⟩
      have hr2 : r2.length ≤ 32 := by have := filesO_len o; rw [hr] at this; exact this
      have HSA := Hd.mk hsa; have HR := Hd.mk hr; clear hsa hr
      generalize arcE fs = ae at *
      go_wp2_with fail
      refine (few_is o true HF A c _ hl hd HM.out (HC.out _ HX2.out).2.1).mono ?_; rintro e w3 ⟨rfl, hx3⟩
      have HX3 := Hd.mk (HX2.out.trans hx3); clear hx3 q0 q1 q2 HX2
      go_wp2_with fail
      refine (archive_is fs _ HSA A' c' _ (by omega) (fun f hf => by have := HFZ.out f hf; omega) (HC.out _ HX3.out).2.2.2.1 (HC.out _ HX3.out).2.2.2.2).mono ?_; rintro e w4 ⟨rfl, hx4⟩
      have HX4 := Hd.mk (HX3.out.trans hx4); clear hx4 HX3
      go_wp2_with (refine boxRow 24 objZ ?_ #[.int .i64 0, .slice none 0 0, .string sa] (n := 61) (i := 5) (k := 26) ?_ ?_ ?_ ?_ ?_ ?_; exact info_obj; rfl; decide; rfl; rfl; (simp [Value.oneCell']); intro w5 h5 hx5 hz5; have HX5 := Hd.mk (HX4.out.trans hx5); have H5 := Hd.mk h5; clear h5 hx5 hz5)
      refine (archiveR_is fs _ HSA A' c' _ (by omega) (fun f hf => by have := HFZ.out f hf; omega) (HC.out _ HX5.out).2.2.2.1).mono ?_; rintro e w6 ⟨rfl, hx6⟩
      have HX6 := Hd.mk (HX5.out.trans hx6); have H6 := Hd.mk (hx6.obj H5.out); clear hx6 HX4 HX5 H5
      go_wp2_with (first
        | (refine boxRow 24 objZ ?_ #[.int .i64 0, .slice none 0 0, .string sa] (n := 61) (i := 7) (k := 31) ?_ ?_ ?_ ?_ ?_ ?_; exact info_obj; rfl; decide; rfl; rfl; (simp [Value.oneCell']); intro w7 h7 hx7 hz7; have HX7 := Hd.mk (HX6.out.trans hx7); have H7 := Hd.mk h7; have H7' := Hd.mk (hx7.obj H6.out); clear h7 hx7 hz7)
        | (refine ldRow 24 w.heap.size ?_ 24 (objC o A c) _ (HC.out _ HX7.out).1 Tryz.underlying24 ?_ ?_ ?_; rfl; rfl; exact size_obj))
      refine (files_is o _ HR A c _ hl hd (HC.out _ HX7.out).2.1 (HC.out _ HX7.out).2.2.2.2).mono ?_; rintro e w8 ⟨hx8, A8, c8, hA8, rfl⟩
      have HX8 := Hd.mk (HX7.out.trans hx8); have HA8 := Hd.mk hA8; have H8 := Hd.mk (hx8.obj H7.out); have H8' := Hd.mk (hx8.obj H7'.out); clear hx8 hA8 HX6 HX7 H6 H7 H7'
      go_wp2_with (refine ldRow 24 w.heap.size ?_ 24 (objC o A c) _ (HC.out _ HX8.out).1 Tryz.underlying24 ?_ ?_ ?_; rfl; rfl; exact size_obj)
      refine (filesR_is o _ HR A c _ hl hd (HC.out _ HX8.out).2.1).mono ?_; rintro e w9 ⟨hx9, A9, c9, hA9, rfl⟩
      have HX9 := Hd.mk (HX8.out.trans hx9); have HA9 := Hd.mk hA9; have HA89 := Hd.mk (HA8.out.ext hx9)
      have h9 := hx9.obj H8.out; have h9' := hx9.obj H8'.out
      have q20 := cell_of h9 (j := 0) (v := .int .i64 0) rfl; have q21 := cell_of h9 (j := 1) (v := .slice none 0 0) rfl; have q22 := cell_of h9 (j := 2) (v := .string sa) rfl
      have q10 := cell_of h9' (j := 0) (v := .int .i64 0) rfl; have q11 := cell_of h9' (j := 1) (v := .slice none 0 0) rfl; have q12 := cell_of h9' (j := 2) (v := .string sa) rfl
      clear hx9 hA9 h9 h9' HX8 HA8 H8 H8'
      go_wp2_with fail
      refine (same_is ⟨0, [], sa⟩ ⟨0, [], sa⟩ true ⟨(sameO_iff _ _).2 rfl⟩ none none 0 0 _ (by simp) (by simp) (.inl ⟨rfl, rfl⟩) (.inl ⟨rfl, rfl⟩)).mono ?_; rintro e w10 ⟨rfl, hx10⟩
      have HX10 := Hd.mk (HX9.out.trans hx10); have HA10 := Hd.mk (HA9.out.ext hx10); have HA11 := Hd.mk (HA89.out.ext hx10); clear hx10 q10 q11 q12 q20 q21 q22
      go_wp2_with fail
      refine (equalF_is r2 r2 true ⟨by simp⟩ A8 A9 c8 c9 _ (by omega) (by omega) HA11.out HA10.out).mono ?_; rintro e w11 ⟨rfl, hx11⟩
      have HX11 := Hd.mk (HX10.out.trans hx11); clear hx11
      go_wp2
      go_ret
      exact ⟨rfl, (HC.out _ HX11.out).2.2.1⟩
end Go.Proofs.YtfofapggmoibkaaGreatDoor
