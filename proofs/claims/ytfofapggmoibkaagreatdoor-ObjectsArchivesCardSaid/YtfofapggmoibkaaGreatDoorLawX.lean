/- ObjectsBytes, walked: it answers true, and nothing below the heap's end has turned. -/
import Derived.Test.YtfofapggmoibkaaGreatDoorProg
import Derived.Test.YtfofapggmoibkaaGreatDoorAwakeX
import Derived.Test.YtfofapggmoibkaaGreatDoorRefX
import Derived.Test.YtfofapggmoibkaaGreatDoorPureX
set_option linter.unusedVariables false
set_option linter.unusedSimpArgs false
namespace Go.Proofs.YtfofapggmoibkaaGreatDoor
open Go Go.RowKit

def zO : Obj := ⟨0, [], ⟨#[]⟩⟩
theorem DecPost.form {w : World} {r : Option Obj} {bad : Int} {e : Ending} {w' : World} (h : DecPost w r bad e w') :
    ∃ A c, StrsAt w' A (r.getD zO).refs ∧ e = .returned (.tuple #[.agg (objC (r.getD zO) A c), .int .i64 (if r.isSome then 0 else bad)]) ∧ Ext w w' := by
  obtain ⟨hx, h⟩ := h
  cases r with
  | none => exact ⟨none, 0, .inl ⟨rfl, rfl⟩, h, hx⟩
  | some o =>
    obtain ⟨A, c, h1, _, h2⟩ := h
    exact ⟨A, c, h1, h2, hx⟩
theorem encR_form (o : Obj) : ∃ s n, encR o = .tuple #[.string s, .int .i64 n] := by
  unfold encR; split <;> exact ⟨_, _, rfl⟩
theorem digR_form (o : Obj) : ∃ s n, digR o = .tuple #[.string s, .int .i64 n] := by
  unfold digR; split <;> exact ⟨_, _, rfl⟩
theorem digestR_is (o : Obj) (v : Value) (H : Hd (digR o = v)) (A : Option Addr) (c : Nat) (w : World) (hl : o.refs.length ≤ 9223372036854775807) (hd : o.data.size ≤ 9223372036854775807) (hA : StrsAt w A o.refs) :
    Calls Tryz.prog 14 #[.agg #[.int .i64 o.kind, .slice A o.refs.length c, .string o.data]] w fun e w' => e = .returned v ∧ Ext w w' := by
  rw [← H.out]; exact digestR_any o A c w hl hd hA
theorem decodeR_is (s : ByteArray) (hs : s.size ≤ 900000) (r : Option Obj) (H : Hd (refDec s = r)) (w : World) : Calls Tryz.prog 16 #[.string s] w (DecPost w r 9) := by
  rw [← H.out]; exact decodeR_any s hs w
theorem few_is (o : Obj) (b : Bool) (H : Hd (fewO o = b)) (A : Option Addr) (c : Nat) (w : World) (hl : o.refs.length ≤ 9223372036854775807) (hd : o.data.size ≤ 9223372036854775807) (hM : ∀ x ∈ o.refs, x.size ≤ 140737488355328) (hA : StrsAt w A o.refs) :
    Calls Tryz.prog 10 #[.agg #[.int .i64 o.kind, .slice A o.refs.length c, .string o.data]] w fun e w' => e = .returned (.bool b) ∧ Ext w w' := by
  rw [← H.out]; exact few_any o A c w hl hd hM hA
/-- what both decoders hand back -/
theorem dec_both (data : ByteArray) : ∃ (r : Option Obj) (z : Obj) (n : Int), Hd (decO data = r) ∧ Hd (refDec data = r) ∧ Hd (∀ w e w', DecPost w r 9 e w' → ∃ A c, StrsAt w' A z.refs ∧ e = .returned (.tuple #[.agg (objC z A c), .int .i64 n]) ∧ Ext w w') ∧
    z.refs.length ≤ 64 ∧ z.data.size ≤ 65536 ∧ (n = 9 ∨ n = 0 ∧ Hd (encR z = .tuple #[.string data, .int .i64 0])) := by
  refine ⟨decO data, (decO data).getD zO, if (decO data).isSome then 0 else 9, ⟨rfl⟩, ⟨(decO_eq data).symm⟩, ⟨fun w e w' h => h.form⟩, ?_⟩
  cases h : decO data with
  | none => exact ⟨Nat.zero_le _, Nat.zero_le _, .inl rfl⟩
  | some o =>
    rw [decO_eq] at h
    obtain ⟨h1, h2⟩ := refDec_wrote h
    have ho := validB_ok h1
    exact ⟨ho.n, ho.d, .inr ⟨rfl, ⟨by simp only [Option.getD_some]; rw [encR, h1, h2]; rfl⟩⟩⟩
set_option maxRecDepth 100000 in
set_option maxHeartbeats 8000000 in
theorem bytes_any (o : Obj) (A : Option Addr) (c : Nat) (data : ByteArray) (w : World) (hl : o.refs.length ≤ 9223372036854775807) (hd : o.data.size ≤ 9223372036854775807) (hdd : data.size ≤ 9223372036854775807) (hM : ∀ x ∈ o.refs, x.size ≤ 140737488355328) (hA : StrsAt w A o.refs) (hg : GV w) :
    Calls Tryz.prog 3 #[.agg #[.int .i64 o.kind, .slice A o.refs.length c, .string o.data], .string data] w fun e w' => e = .returned (.bool true) ∧ Ext w w' := by
  have HG := Hd.mk hg; have HA := Hd.mk hA; have HM := Hd.mk hM; clear hg hA hM
  have HC : Hd (∀ w', Ext (w.alloc (.cells #[.int .i64 o.kind, .slice A o.refs.length c, .string o.data] 24)) w' → w'.heap[w.heap.size]? = some (.cells (objC o A c) 24 (0, 0)) ∧ StrsAt w' A o.refs ∧ Ext w w') := ⟨fun w' hx => ⟨hx.obj (heap_alloc_new w _), HA.out.ext (((Ext.refl w).alloc _).trans hx), ((Ext.refl w).alloc _).trans hx⟩⟩
  go_enter Tryz.func3, Tryz.ntmps3
  go_wp2_with fail
  refine (awake_any _ (HG.out.ext ((Ext.refl w).alloc _))).mono ?_; rintro e w1 ⟨rfl, hx1⟩
  have HX1 := Hd.mk hx1; clear hx1
  cases hf : fewO o with
  | false =>
    have HF := Hd.mk hf; clear hf
    go_wp2_with (refine ldRow 24 w.heap.size ?_ 24 (objC o A c) _ (HC.out _ HX1.out).1 Tryz.underlying24 ?_ ?_ ?_; rfl; rfl; exact size_obj)
    refine (few_is o false HF A c _ hl hd HM.out (HC.out _ HX1.out).2.1).mono ?_; rintro e w2 ⟨rfl, hx2⟩
    have HX2 := Hd.mk (HX1.out.trans hx2); clear hx2
    go_wp2
    go_ret
    exact ⟨rfl, (HC.out _ HX2.out).2.2⟩
  | true =>
    have HF := Hd.mk hf; clear hf
    by_cases hs : (data.size : Int) > 5000
    · go_wp2_with (refine ldRow 24 w.heap.size ?_ 24 (objC o A c) _ (HC.out _ HX1.out).1 Tryz.underlying24 ?_ ?_ ?_; rfl; rfl; exact size_obj)
      refine (few_is o true HF A c _ hl hd HM.out (HC.out _ HX1.out).2.1).mono ?_; rintro e w2 ⟨rfl, hx2⟩
      have HX2 := Hd.mk (HX1.out.trans hx2); clear hx2
      go_wp2
      go_ret
      exact ⟨rfl, (HC.out _ HX2.out).2.2⟩
    · obtain ⟨s1, n1, he1⟩ := encR_form o
      obtain ⟨s2, n2, he2⟩ := digR_form o
      obtain ⟨r, z, n, HR, HR', HZ, zl, zd, hn⟩ := dec_both data
      have HE1 := Hd.mk he1; have HE2 := Hd.mk he2; clear he1 he2
      have hds : data.size ≤ 5000 := by omega
      go_wp2_with (refine ldRow 24 w.heap.size ?_ 24 (objC o A c) _ (HC.out _ HX1.out).1 Tryz.underlying24 ?_ ?_ ?_; rfl; rfl; exact size_obj)
      refine (few_is o true HF A c _ hl hd HM.out (HC.out _ HX1.out).2.1).mono ?_; rintro e w2 ⟨rfl, hx2⟩
      have HX2 := Hd.mk (HX1.out.trans hx2); clear hx2
      go_wp2_with (refine ldRow 24 w.heap.size ?_ 24 (objC o A c) _ (HC.out _ HX2.out).1 Tryz.underlying24 ?_ ?_ ?_; rfl; rfl; exact size_obj)
      refine (encode_is o _ HE1 A c _ hl hd (HC.out _ HX2.out).2.1).mono ?_; rintro e w3 ⟨rfl, hx3⟩
      have HX3 := Hd.mk (HX2.out.trans hx3); clear hx3
      go_wp2_with (refine ldRow 24 w.heap.size ?_ 24 (objC o A c) _ (HC.out _ HX3.out).1 Tryz.underlying24 ?_ ?_ ?_; rfl; rfl; exact size_obj)
      refine (encodeR_is o _ HE1 A c _ hl hd (HC.out _ HX3.out).2.1).mono ?_; rintro e w4 ⟨rfl, hx4⟩
      have HX4 := Hd.mk (HX3.out.trans hx4); clear hx4
      go_wp2_with (refine ldRow 24 w.heap.size ?_ 24 (objC o A c) _ (HC.out _ HX4.out).1 Tryz.underlying24 ?_ ?_ ?_; rfl; rfl; exact size_obj)
      refine (digest_is o _ HE2 A c _ hl hd (HC.out _ HX4.out).2.1).mono ?_; rintro e w5 ⟨rfl, hx5⟩
      have HX5 := Hd.mk (HX4.out.trans hx5); clear hx5
      go_wp2_with (refine ldRow 24 w.heap.size ?_ 24 (objC o A c) _ (HC.out _ HX5.out).1 Tryz.underlying24 ?_ ?_ ?_; rfl; rfl; exact size_obj)
      refine (digestR_is o _ HE2 A c _ hl hd (HC.out _ HX5.out).2.1).mono ?_; rintro e w6 ⟨rfl, hx6⟩
      have HX6 := Hd.mk (HX5.out.trans hx6); clear hx6 HX1 HX2 HX3 HX4 HX5
      go_wp2_with fail
      refine (decode_is data (by omega) r HR _).mono ?_; intro e w7 h7
      obtain ⟨A1, c1, hA1, rfl, hx7⟩ := HZ.out _ _ _ h7
      have HX7 := Hd.mk (HX6.out.trans hx7); have HA1 := Hd.mk hA1; clear h7 hA1 hx7
      go_wp2_with (refine boxRow 24 objZ ?_ (objC z A1 c1) (n := 101) (i := 13) (k := 51) ?_ ?_ ?_ ?_ ?_ ?_; exact info_obj; rfl; decide; rfl; rfl; exact objC_one _ _ _; intro w8 h8 hx8 hz8; have HX8 := Hd.mk (HX7.out.trans hx8); have H8 := Hd.mk h8; have HA8 := Hd.mk (HA1.out.ext hx8); clear h8 hx8 hz8)
      refine (decodeR_is data (by omega) r HR' _).mono ?_; intro e w9 h9
      obtain ⟨A2, c2, hA2, rfl, hx9⟩ := HZ.out _ _ _ h9
      have HX9 := Hd.mk (HX8.out.trans hx9); have HA2 := Hd.mk hA2; have H9 := Hd.mk (hx9.obj H8.out); have HA9 := Hd.mk (HA8.out.ext hx9); clear h9 hA2 hx9 HX6 HX7 HX8 HA1 HA8 H8
      go_wp2_with (refine boxRow 24 objZ ?_ (objC z A2 c2) (n := 101) (i := 15) (k := 56) ?_ ?_ ?_ ?_ ?_ ?_; exact info_obj; rfl; decide; rfl; rfl; exact objC_one _ _ _; intro w10 h10 hx10 hz10; have HX10 := Hd.mk (HX9.out.trans hx10); have q20 := cell_of h10 (j := 0) (v := .int .i64 z.kind) rfl; have q21 := cell_of h10 (j := 1) (v := .slice A2 z.refs.length c2) rfl; have q22 := cell_of h10 (j := 2) (v := .string z.data) rfl; have h11 := hx10.obj H9.out; have q10 := cell_of h11 (j := 0) (v := .int .i64 z.kind) rfl; have q11 := cell_of h11 (j := 1) (v := .slice A1 z.refs.length c1) rfl; have q12 := cell_of h11 (j := 2) (v := .string z.data) rfl; have H11 := Hd.mk h11; have HA10 := Hd.mk (HA2.out.ext hx10); have HA11 := Hd.mk (HA9.out.ext hx10); clear h10 hx10 hz10 h11)
      refine (same_is z z true ⟨(sameO_iff _ _).2 rfl⟩ A1 A2 c1 c2 _ (by omega) (by omega) HA11.out HA10.out).mono ?_; rintro e w11 ⟨rfl, hx11⟩
      have HX11 := Hd.mk (HX10.out.trans hx11); have H12 := Hd.mk (hx11.obj H11.out); have HA12 := Hd.mk (HA11.out.ext hx11)
      clear hx11 q10 q11 q12 q20 q21 q22 HX9 HX10 HA2 HA9 HA10 HA11 H9 H11
      rcases hn with rfl | ⟨rfl, hez⟩
      · go_wp2
        go_ret
        exact ⟨rfl, (HC.out _ HX11.out).2.2⟩
      · have q10 := cell_of H12.out (j := 0) (v := .int .i64 z.kind) rfl
        have q11 := cell_of H12.out (j := 1) (v := .slice A1 z.refs.length c1) rfl
        have q12 := cell_of H12.out (j := 2) (v := .string z.data) rfl
        go_wp2_with fail
        refine (encode_is z _ hez A1 c1 _ (by omega) (by omega) HA12.out).mono ?_; rintro e w12 ⟨rfl, hx12⟩
        have HX12 := Hd.mk (HX11.out.trans hx12); clear hx12 q10 q11 q12
        go_wp2
        go_ret
        exact ⟨rfl, (HC.out _ HX12.out).2.2⟩
end Go.Proofs.YtfofapggmoibkaaGreatDoor
