/- ObjectsReturns, walked: it answers true, and nothing below the heap's end has turned. -/
import Derived.Test.YtfofapggmoibkaaGreatDoorProg
import Derived.Test.YtfofapggmoibkaaGreatDoorLawX
import Derived.Test.YtfofapggmoibkaaGreatDoorFileZ
set_option linter.unusedVariables false
set_option linter.unusedSimpArgs false
namespace Go.Proofs.YtfofapggmoibkaaGreatDoor
open Go Go.RowKit

theorem fewFiles_is (fs : List FileT) (b : Bool) (H : Hd (fewF fs = b)) (A : Option Addr) (c : Nat) (w : World) (hl : fs.length ≤ 9223372036854775807) (hM : ∀ f ∈ fs, f.1.size ≤ 140737488355328 ∧ f.2.size ≤ 140737488355328) (hA : RowAt w A (fcells fs)) :
    Calls Tryz.prog 18 #[.slice A fs.length c] w fun e w' => e = .returned (.bool b) ∧ Ext w w' := by
  rw [← H.out]; exact fewFiles_any fs A c w hl hM hA
theorem fewF_ok {fs : List FileT} (h : fewF fs = true) : fs.length ≤ 40 ∧ ∀ f ∈ fs, f.1.size ≤ 5000 ∧ f.2.size ≤ 5000 := by
  rw [fewF, Bool.and_eq_true, decide_eq_true_eq, decide_eq_true_eq] at h
  refine ⟨h.1, fun f hf => ?_⟩
  have := sumF_mem hf
  omega
set_option maxRecDepth 100000 in
set_option maxHeartbeats 8000000 in
theorem returns_any (o : Obj) (A : Option Addr) (c : Nat) (fs : List FileT) (A' : Option Addr) (c' : Nat) (w : World) (hl : o.refs.length ≤ 9223372036854775807) (hd : o.data.size ≤ 9223372036854775807) (hM : ∀ x ∈ o.refs, x.size ≤ 140737488355328) (hA : StrsAt w A o.refs)
    (hl' : fs.length ≤ 9223372036854775807) (hM' : ∀ f ∈ fs, f.1.size ≤ 140737488355328 ∧ f.2.size ≤ 140737488355328) (hA' : RowAt w A' (fcells fs)) (hg : GV w) :
    Calls Tryz.prog 5 #[.agg #[.int .i64 o.kind, .slice A o.refs.length c, .string o.data], .slice A' fs.length c'] w fun e w' => e = .returned (.bool true) ∧ Ext w w' := by
  have HG := Hd.mk hg; have HA := Hd.mk hA; have HM := Hd.mk hM; have HA' := Hd.mk hA'; have HM' := Hd.mk hM'; clear hg hA hM hA' hM'
  have HC : Hd (∀ w', Ext (w.alloc (.cells #[.int .i64 o.kind, .slice A o.refs.length c, .string o.data] 24)) w' → w'.heap[w.heap.size]? = some (.cells (objC o A c) 24 (0, 0)) ∧ StrsAt w' A o.refs ∧ Ext w w' ∧ RowAt w' A' (fcells fs) ∧ GV w') := ⟨fun w' hx => ⟨hx.obj (heap_alloc_new w _), HA.out.ext (((Ext.refl w).alloc _).trans hx), ((Ext.refl w).alloc _).trans hx, HA'.out.ext (((Ext.refl w).alloc _).trans hx), HG.out.ext (((Ext.refl w).alloc _).trans hx)⟩⟩
  go_enter Tryz.func5, Tryz.ntmps5
  go_wp2_with fail
  refine (awake_any _ (HG.out.ext ((Ext.refl w).alloc _))).mono ?_; rintro e w1 ⟨rfl, hx1⟩
  have HX1 := Hd.mk hx1; clear hx1 HA HG HA'
  cases hf : fewO o with
  | false =>
    have HF := Hd.mk hf; clear hf
    go_wp2_with (refine ldRow 24 w.heap.size ?_ 24 (objC o A c) _ (HC.out _ HX1.out).1 Tryz.underlying24 ?_ ?_ ?_; rfl; rfl; exact size_obj)
    refine (few_is o false HF A c _ hl hd HM.out (HC.out _ HX1.out).2.1).mono ?_; rintro e w2 ⟨rfl, hx2⟩
    have HX2 := Hd.mk (HX1.out.trans hx2); clear hx2
    go_wp2
    go_ret
    exact ⟨rfl, (HC.out _ HX2.out).2.2.1⟩
  | true =>
    have HF := Hd.mk hf; clear hf
    cases hff : fewF fs with
    | false =>
      have HFF := Hd.mk hff; clear hff
      go_wp2_with (refine ldRow 24 w.heap.size ?_ 24 (objC o A c) _ (HC.out _ HX1.out).1 Tryz.underlying24 ?_ ?_ ?_; rfl; rfl; exact size_obj)
      refine (few_is o true HF A c _ hl hd HM.out (HC.out _ HX1.out).2.1).mono ?_; rintro e w2 ⟨rfl, hx2⟩
      have HX2 := Hd.mk (HX1.out.trans hx2); clear hx2
      go_wp2_with fail
      refine (fewFiles_is fs false HFF A' c' _ hl' HM'.out (HC.out _ HX2.out).2.2.2.1).mono ?_; rintro e w3 ⟨rfl, hx3⟩
      have HX3 := Hd.mk (HX2.out.trans hx3); clear hx3
      go_wp2
      go_ret
      exact ⟨rfl, (HC.out _ HX3.out).2.2.1⟩
    | true =>
      obtain ⟨fl, fz⟩ := fewF_ok hff
      have HFF := Hd.mk hff; have HFZ := Hd.mk fz; clear hff fz
      go_wp2_with (refine ldRow 24 w.heap.size ?_ 24 (objC o A c) _ (HC.out _ HX1.out).1 Tryz.underlying24 ?_ ?_ ?_; rfl; rfl; exact size_obj)
      refine (few_is o true HF A c _ hl hd HM.out (HC.out _ HX1.out).2.1).mono ?_; rintro e w2 ⟨rfl, hx2⟩
      have HX2 := Hd.mk (HX1.out.trans hx2); clear hx2
      go_wp2_with fail
      refine (fewFiles_is fs true HFF A' c' _ hl' HM'.out (HC.out _ HX2.out).2.2.2.1).mono ?_; rintro e w3 ⟨rfl, hx3⟩
      have HX3 := Hd.mk (HX2.out.trans hx3); clear hx3 HX1 HX2
      go_wp2_with (refine ldRow 24 w.heap.size ?_ 24 (objC o A c) _ (HC.out _ HX3.out).1 Tryz.underlying24 ?_ ?_ ?_; rfl; rfl; exact size_obj)
      rcases Bool.eq_false_or_eq_true (validB o) with hv | hv
      rotate_left
      focus
        refine (encode_is o (.tuple #[.string ⟨#[]⟩, .int .i64 1]) ⟨by rw [encR, hv]; rfl⟩ A c _ hl hd (HC.out _ HX3.out).2.1).mono ?_; rintro e wc ⟨rfl, hxc⟩
        have HXC := Hd.mk (HX3.out.trans hxc); clear hxc hv HX3
        go_wp2_with fail
      rotate_left
      focus
        have hdec : decO (encB o) = some o := by rw [decO_eq, refDec_enc hv]
        have hsz := encB_size (validB_ok hv)
        refine (encode_is o (.tuple #[.string (encB o), .int .i64 0]) ⟨by rw [encR, hv]; rfl⟩ A c _ hl hd (HC.out _ HX3.out).2.1).mono ?_; rintro e w4 ⟨rfl, hx4⟩
        have HX4 := Hd.mk (HX3.out.trans hx4); have HDC := Hd.mk hdec; clear hx4 hv HX3 hdec
        go_wp2_with fail
        refine (decode_is (encB o) (by omega) _ HDC _).mono ?_; rintro e w5 ⟨hx5, A5, c5, hA5, _, rfl⟩
        have HX5 := Hd.mk (HX4.out.trans hx5); have HA5 := Hd.mk hA5; clear hx5 hA5 HX4
        go_wp2_with (refine boxRow 24 objZ ?_ (objC o A5 c5) (n := 76) (i := 7) (k := 33) ?_ ?_ ?_ ?_ ?_ ?_; exact info_obj; rfl; decide; rfl; rfl; exact objC_one _ _ _; intro w6 h6 hx6 hz6; have HX6 := Hd.mk (HX5.out.trans hx6); have HA6 := Hd.mk (HA5.out.ext hx6); have h2 := (HC.out _ HX6.out).1; have q10 := cell_of h6 (j := 0) (v := .int .i64 o.kind) rfl; have q11 := cell_of h6 (j := 1) (v := .slice A5 o.refs.length c5) rfl; have q12 := cell_of h6 (j := 2) (v := .string o.data) rfl; have q20 := cell_of h2 (j := 0) (v := .int .i64 o.kind) rfl; have q21 := cell_of h2 (j := 1) (v := .slice A o.refs.length c) rfl; have q22 := cell_of h2 (j := 2) (v := .string o.data) rfl; clear h6 hx6 hz6 h2 HX5 HA5)
        refine (same_is o o true ⟨(sameO_iff _ _).2 rfl⟩ A5 A c5 c _ hl hl HA6.out (HC.out _ HX6.out).2.1).mono ?_; rintro e wc ⟨rfl, hxc⟩
        have HXC := Hd.mk (HX6.out.trans hxc); clear hxc q10 q11 q12 q20 q21 q22 HX6 HA6 hsz HDC
        go_wp2_with fail
      all_goals
        cases hz : decide (arcE fs = 0) with
        | true =>
          have h0 : arcE fs = 0 := of_decide_eq_true hz
          have hfa := files_arc (fun f hf => by have := HFZ.out f hf; omega) h0
          have har : arcR fs = .tuple #[.agg #[.int .i64 0, .slice none 0 0, .string (arcB fs)], .int .i64 0] := by rw [arcR, if_pos h0]
          have hbs : (arcB fs).size ≤ 9223372036854775807 := by
            have h1 := arcT_size fs (uvs fs.length) (fun f hf => by have := HFZ.out f hf; omega)
            have h2 := uvs_size fs.length (by omega)
            have h3 : fs.length * 2000040 ≤ 40 * 2000040 := Nat.mul_le_mul_right _ fl
            show (arcT fs (uvs fs.length)).size ≤ _
            omega
          have HFA := Hd.mk hfa; have HAR := Hd.mk har; clear hfa har hz h0
          refine (archive_is fs _ HAR A' c' _ (by omega) (fun f hf => by have := HFZ.out f hf; omega) (HC.out _ HXC.out).2.2.2.1 (HC.out _ HXC.out).2.2.2.2).mono ?_; rintro e w8 ⟨rfl, hx8⟩
          have HX8 := Hd.mk (HXC.out.trans hx8); clear hx8
          generalize arcB fs = ab at *
          go_wp2_with (first
            | (refine boxRow 24 objZ ?_ #[.int .i64 0, .slice none 0 0, .string ab] (n := 76) (i := 9) (k := 46) ?_ ?_ ?_ ?_ ?_ ?_; exact info_obj; rfl; decide; rfl; rfl; (simp [Value.oneCell']); intro w9 h9 hx9 hz9; have HX9 := Hd.mk (HX8.out.trans hx9); have H9 := Hd.mk h9; clear h9 hx9 hz9)
            | (refine ldRow 24 w8.heap.size ?_ 24 _ _ H9.out Tryz.underlying24 ?_ ?_ ?_; rfl; rfl; exact size_obj))
          refine (files_is ⟨0, [], ab⟩ _ HFA none 0 _ (by simp) hbs (.inl ⟨rfl, rfl⟩) (HC.out _ HX9.out).2.2.2.2).mono ?_; rintro e w10 ⟨hx10, A10, c10, hA10, rfl⟩
          have HX10 := Hd.mk (HX9.out.trans hx10); have q9 := cell_of (hx10.obj H9.out) (j := 0) (v := .int .i64 0) rfl; have HA10 := Hd.mk hA10; clear hx10 hA10 hbs
          go_wp2_with fail
          refine (equalF_is fs fs true ⟨by simp⟩ A10 A' c10 c' _ (by omega) (by omega) HA10.out (HC.out _ HX10.out).2.2.2.1).mono ?_; rintro e w11 ⟨rfl, hx11⟩
          have q10 := hx11.cell q9
          have HX11 := Hd.mk (HX10.out.trans hx11); clear hx11 q9
          go_wp2
          go_ret
          exact ⟨rfl, (HC.out _ HX11.out).2.2.1⟩
        | false =>
          have h0 : arcE fs ≠ 0 := of_decide_eq_false hz
          have har : arcR fs = .tuple #[.agg objZ, .int .i64 (arcE fs)] := by rw [arcR, if_neg h0]
          have hb : (arcE fs != 0) = true := by simp [h0]
          have HAR := Hd.mk har; clear har hz h0
          refine (archive_is fs _ HAR A' c' _ (by omega) (fun f hf => by have := HFZ.out f hf; omega) (HC.out _ HXC.out).2.2.2.1 (HC.out _ HXC.out).2.2.2.2).mono ?_; rintro e w8 ⟨rfl, hx8⟩
          have HX8 := Hd.mk (HXC.out.trans hx8); clear hx8
          generalize arcE fs = ae at *
          go_wp2_with (refine boxRow 24 objZ ?_ objZ (n := 76) (i := 9) (k := 46) ?_ ?_ ?_ ?_ ?_ ?_; exact info_obj; rfl; decide; rfl; rfl; exact objZ_one; intro w9 h9 hx9 hz9; have HX9 := Hd.mk (HX8.out.trans hx9); have q91 := cell_of h9 (j := 1) (v := .slice none 0 0) rfl; have q92 := cell_of h9 (j := 2) (v := .string ⟨#[]⟩) rfl; clear h9 hx9 hz9)
          go_ret
          exact ⟨rfl, (HC.out _ HX9.out).2.2.1⟩
end Go.Proofs.YtfofapggmoibkaaGreatDoor
