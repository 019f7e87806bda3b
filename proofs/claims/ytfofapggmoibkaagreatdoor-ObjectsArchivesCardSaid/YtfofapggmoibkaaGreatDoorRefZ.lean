/- The reference's archives (r49), walked: Archive, Files. The reference's archives (r49), walked: Files. -/
import Derived.Test.YtfofapggmoibkaaGreatDoorProg
import Derived.Test.YtfofapggmoibkaaGreatDoorPureY
import Derived.Test.YtfofapggmoibkaaGreatDoorFileY
import Derived.Test.YtfofapggmoibkaaGreatDoorObjX
set_option linter.unusedVariables false
set_option linter.unusedSimpArgs false
namespace Go.Proofs.YtfofapggmoibkaaGreatDoor
open Go Go.RowKit

theorem validFiles_is (fs : List FileT) (n : Int) (H : Hd (arcE fs = n)) (A : Option Addr) (c : Nat) (w : World) (hn : fs.length ≤ 1000) (hB : ∀ f ∈ fs, f.1.size ≤ 1000000 ∧ f.2.size ≤ 1000000) (hA : RowAt w A (fcells fs)) :
    Calls Tryz.prog 59 #[.slice A fs.length c] w fun e w' => e = .returned (.int .i64 n) ∧ Ext w w' := by
  rw [← H.out, ← vfE_eq]; exact validFiles_any fs A c w hn hB hA
set_option maxRecDepth 100000 in
set_option maxHeartbeats 4000000 in
theorem archiveR_any (fs : List FileT) (A : Option Addr) (c : Nat) (w : World) (hn : fs.length ≤ 1000) (hB : ∀ f ∈ fs, f.1.size ≤ 1000000 ∧ f.2.size ≤ 1000000) (hA : RowAt w A (fcells fs)) :
    Calls Tryz.prog 20 #[.slice A fs.length c] w fun e w' => e = .returned (arcR fs) ∧ Ext w w' := by
  have HA := Hd.mk hA; have HB := Hd.mk hB; clear hA hB
  obtain ⟨W, hW⟩ : ∃ W, W = w.alloc (.cells #[.int .i64 0, .slice none 0 0, .string ⟨#[]⟩] 24) := ⟨_, rfl⟩
  have HX0 := Hd.mk (show Ext w W by rw [hW]; exact (Ext.refl w).alloc _)
  have HZ0 := Hd.mk (show W.heap[w.heap.size]? = some (.cells objZ 24 (0, 0)) by rw [hW]; exact heap_alloc_new w _)
  go_enter Tryz.func20, Tryz.ntmps20
  go_wp2_with fail
  rw [← hW]
  clear hW
  by_cases h0 : arcE fs = 0
  · have har : arcR fs = .tuple #[.agg #[.int .i64 0, .slice none 0 0, .string (arcB fs)], .int .i64 0] := by rw [arcR, if_pos h0]
    have HAR := Hd.mk har; have H0 := Hd.mk h0; clear har h0
    refine (validFiles_is fs 0 H0 A c _ hn HB.out (HA.out.ext HX0.out)).mono ?_; rintro e w1 ⟨rfl, hx1⟩
    have HX1 := Hd.mk (HX0.out.trans hx1); have HZ1 := Hd.mk (hx1.obj HZ0.out); clear hx1
    go_wp2_with fail
    refine (bytesR_any fs A c _ hn HB.out (HA.out.ext HX1.out)).mono ?_; rintro e w2 ⟨rfl, hx2⟩
    have HX2 := Hd.mk (HX1.out.trans hx2); have HZ2 := Hd.mk (hx2.obj HZ1.out); clear hx2
    generalize arcB fs = ab at *
    go_wp2_with (refine stRow 24 w.heap.size #[.int .i64 0, .slice none 0 0, .string ab] ?_ ?_ 24 objZ ?_ ?_ ?_ ?_ ?_; rfl; rfl; exact HZ2.out; exact size_obj; rfl; (simp [Value.oneCell']))
    refine bodyPost_ret (v := .tuple #[.agg #[.int .i64 0, .slice none 0 0, .string ab], .int .i64 0]) ?_ (by rfl) ?_
    · exact ret_cell_tmp (p := 2) (u := 3) (ty := 24) rfl _ _ w.heap.size 24 #[.int .i64 0, .slice none 0 0, .string ab] _ _ (by rfl) (by rfl) (row_block HZ2.out) Tryz.underlying24 rfl size_obj
    · exact ⟨by rw [HAR.out], HX2.out.row (Nat.le_refl _) _⟩
  · have hb : (arcE fs != 0) = true := by simp [h0]
    have har : arcR fs = .tuple #[.agg objZ, .int .i64 (arcE fs)] := by rw [arcR, if_neg h0]
    have HAR := Hd.mk har; clear har h0
    refine (validFiles_is fs _ ⟨rfl⟩ A c _ hn HB.out (HA.out.ext HX0.out)).mono ?_; rintro e w1 ⟨rfl, hx1⟩
    have HX1 := Hd.mk (HX0.out.trans hx1); have HZ1 := Hd.mk (hx1.obj HZ0.out); clear hx1
    generalize arcE fs = ae at *
    go_wp2_with (refine stRow 24 w.heap.size objZ ?_ ?_ 24 objZ ?_ ?_ ?_ ?_ ?_; rfl; rfl; exact HZ1.out; exact size_obj; rfl; exact objZ_one)
    refine bodyPost_ret (v := .tuple #[.agg objZ, .int .i64 ae]) ?_ (by rfl) ?_
    · exact ret_cell_tmp (p := 2) (u := 3) (ty := 24) rfl _ _ w.heap.size 24 objZ _ _ (by rfl) (by rfl) (row_block HZ1.out) Tryz.underlying24 rfl size_obj
    · exact ⟨by rw [HAR.out], HX1.out.row (Nat.le_refl _) _⟩
theorem pairs_err {s : ByteArray} {st : Nat × Int} {k : Nat} (h : (pairsS s st k).2.2 ≠ 0) : ∀ d, (pairsS s st (k + d)).2 = (pairsS s st k).2 := by
  intro d
  induction d with
  | zero => rfl
  | succ d ih =>
    rw [← Nat.add_assoc, pairsS]
    simp only
    rw [ih, textS_err h]
    simp only
    rw [textS_err h]
theorem files_corrupt {o : Obj} {n next k : Nat} (hv : validB o = true) (hk : o.kind = 0) (hs : sizeO o.data 0 = some (n, next)) (hn : n ≤ 32) (hkn : k ≤ n) (h : (pairsS o.data (next, 0) k).2.2 ≠ 0) : filesO o = (9, []) := by
  have hc : countS o.data 32 (0, 0) = ((n : Int), (next, 0)) := countS_ok (by rw [countO, hs]; simp only; rw [if_pos hn])
  have hp := pairs_err h (n - k)
  rw [show k + (n - k) = n by omega] at hp
  rw [filesO, if_pos ⟨hv, hk⟩, if_neg]
  intro hh
  have h2 := hh.2.1
  rw [filesL, hc] at h2
  simp only [Int.toNat_natCast] at h2
  rw [hp] at h2
  unfold endS at h2
  split at h2
  · cases h2
  · exact h h2
theorem files_read {o : Obj} {n next : Nat} (hv : validB o = true) (hk : o.kind = 0) (hs : sizeO o.data 0 = some (n, next)) (hn : n ≤ 32) {l : List FileT} {a : Nat} (h : pairsS o.data (next, 0) n = (l, (a, 0))) (ha : a ≤ o.data.size) :
    filesO o = if arcE l = 0 ∧ a = o.data.size ∧ o.refs = [] then (0, l) else (9, []) := by
  have hc : countS o.data 32 (0, 0) = ((n : Int), (next, 0)) := countS_ok (by rw [countO, hs]; simp only; rw [if_pos hn])
  have hfl : filesL o = (l, (a, 0)) := by
    rw [filesL, hc]
    simp only [Int.toNat_natCast]
    exact h
  rw [filesO, if_pos ⟨hv, hk⟩, hfl]
  simp only
  have he : endS o.data (a, 0) = 0 ↔ a = o.data.size := by
    unfold endS
    simp only [true_and]
    constructor
    · intro h
      split at h
      · cases h
      · omega
    · intro h; rw [if_neg (by omega)]
  by_cases h1 : arcE l = 0 ∧ a = o.data.size ∧ o.refs = []
  · rw [if_pos h1, if_pos ⟨h1.1, he.2 h1.2.1, h1.2.2⟩]
  · rw [if_neg h1, if_neg (fun h => h1 ⟨h.1, he.1 h.2.1, h.2.2⟩)]
theorem files_nocount {o : Obj} (hv : validB o = true) (hk : o.kind = 0) (hs : sizeO o.data 0 = none ∨ ∃ n next, sizeO o.data 0 = some (n, next) ∧ 32 < n) : filesO o = (9, []) := by
  have hc : countS o.data 32 (0, 0) = (0, (0, 9)) := countS_no (by
    rw [countO]
    rcases hs with hs | ⟨n, next, hs, hn⟩
    · rw [hs]
    · rw [hs]; simp only; rw [if_neg (by omega)])
  rw [filesO, if_pos ⟨hv, hk⟩, if_neg]
  intro hh
  have h2 := hh.2.1
  rw [filesL, hc] at h2
  simp only [Int.toNat_zero, pairsS] at h2
  unfold endS at h2
  simp at h2
theorem files_refs {o : Obj} (hv : validB o = true) (hk : o.kind = 0) (hr : o.refs ≠ []) : filesO o = (9, []) := by
  rw [filesO, if_pos ⟨hv, hk⟩, if_neg (fun h => hr h.2.2)]
end Go.Proofs.YtfofapggmoibkaaGreatDoor
namespace Go.Proofs.YtfofapggmoibkaaGreatDoor
open Go Go.RowKit

set_option maxRecDepth 100000 in
set_option maxHeartbeats 2000000 in
theorem filesR_bad (o : Obj) (A : Option Addr) (c : Nat) (w : World) (hl : o.refs.length ≤ 9223372036854775807) (hd : o.data.size ≤ 9223372036854775807) (hA : StrsAt w A o.refs) (hbad : ¬ (validB o = true ∧ o.kind = 0)) :
    Calls Tryz.prog 22 #[.agg #[.int .i64 o.kind, .slice A o.refs.length c, .string o.data]] w (FilesPost w (filesO o)) := by
  have HR : Hd (filesO o = (1, [])) := ⟨by rw [filesO, if_neg hbad]⟩
  have HA := Hd.mk hA; clear hA
  have HE := Hd.mk ((Ext.refl w).alloc (.cells #[.int .i64 o.kind, .slice A o.refs.length c, .string o.data] 24))
  have HC : Hd (∀ w', Ext (w.alloc (.cells #[.int .i64 o.kind, .slice A o.refs.length c, .string o.data] 24)) w' → w'.cell? ⟨w.heap.size, 0, none⟩ = some (.int .i64 o.kind)) := ⟨fun w' hx => cell_of (hx.obj (heap_alloc_new w _)) rfl⟩
  cases hv : validB o with
  | false =>
    have HV := Hd.mk hv; clear hv hbad
    go_enter Tryz.func22, Tryz.ntmps22
    go_wp2_with fail
    refine (validR_is o false HV A c _ hl hd (HA.out.ext HE.out)).mono ?_; rintro e w1 ⟨rfl, hx1⟩
    go_wp2
    go_ret2
    rw [HR.out]
    exact ⟨HE.out.trans hx1, none, 0, .inl ⟨rfl, rfl⟩, rfl⟩
  | true =>
    have hk : (o.kind != 0) = true := by
      have : o.kind ≠ 0 := fun e => hbad ⟨hv, e⟩
      simp [this]
    have HV := Hd.mk hv; clear hv hbad
    go_enter Tryz.func22, Tryz.ntmps22
    go_wp2_with fail
    refine (validR_is o true HV A c _ hl hd (HA.out.ext HE.out)).mono ?_; rintro e w1 ⟨rfl, hx1⟩
    have hc := HC.out w1 hx1
    go_wp2
    go_ret2
    rw [HR.out]
    exact ⟨HE.out.trans hx1, none, 0, .inl ⟨rfl, rfl⟩, rfl⟩
set_option maxRecDepth 100000 in
set_option maxHeartbeats 8000000 in
theorem filesR_good (o : Obj) (A : Option Addr) (c : Nat) (w : World) (hok : validB o = true) (hk0 : o.kind = 0) (hA : StrsAt w A o.refs) :
    Calls Tryz.prog 22 #[.agg #[.int .i64 o.kind, .slice A o.refs.length c, .string o.data]] w (FilesPost w (filesO o)) := by
  obtain ⟨k0, k1, n0, dd, rr⟩ := validB_ok hok
  have HV := Hd.mk hok; have HA := Hd.mk hA; have HK := Hd.mk hk0
  have hkb : (o.kind != 0) = false := by simp [hk0]
  clear hok hA hk0 rr
  have HE := Hd.mk ((Ext.refl w).alloc (.cells #[.int .i64 o.kind, .slice A o.refs.length c, .string o.data] 24))
  have HC : Hd (∀ w', Ext (w.alloc (.cells #[.int .i64 o.kind, .slice A o.refs.length c, .string o.data] 24)) w' → w'.cell? ⟨w.heap.size, 0, none⟩ = some (.int .i64 o.kind) ∧ w'.cell? ⟨w.heap.size, 1, none⟩ = some (.slice A o.refs.length c) ∧ w'.cell? ⟨w.heap.size, 2, none⟩ = some (.string o.data)) := ⟨fun w' hx => ⟨cell_of (hx.obj (heap_alloc_new w _)) rfl, cell_of (hx.obj (heap_alloc_new w _)) rfl, cell_of (hx.obj (heap_alloc_new w _)) rfl⟩⟩
  go_enter Tryz.func22, Tryz.ntmps22
  go_wp2_with fail
  refine (validR_is o true HV A c _ (by omega) (by omega) (HA.out.ext HE.out)).mono ?_; rintro e w1 ⟨rfl, hx1⟩
  obtain ⟨q0, q1, q2⟩ := HC.out w1 hx1
  have HX1 := Hd.mk hx1; clear hx1
  by_cases hre : (o.refs.length : Int) > 0
  · have HF : Hd (filesO o = (9, [])) := ⟨files_refs HV.out HK.out (by intro e; rw [e] at hre; simp at hre)⟩
    go_wp2
    go_ret2
    rw [HF.out]
    exact ⟨HE.out.trans HX1.out, none, 0, .inl ⟨rfl, rfl⟩, rfl⟩
  · have HRE : Hd (o.refs = []) := ⟨List.eq_nil_of_length_eq_zero (by omega)⟩
    cases hs : sizeO o.data 0 with
    | none =>
      have HF : Hd (filesO o = (9, [])) := ⟨files_nocount HV.out HK.out (.inl hs)⟩
      have HS := Hd.mk hs; clear hs
      go_wp2_with fail
      refine (readUint_no _ (by omega) (by omega) HS).mono ?_; rintro e _ ⟨rfl, rfl⟩
      go_wp2
      go_ret2
      rw [HF.out]
      exact ⟨HE.out.trans HX1.out, none, 0, .inl ⟨rfl, rfl⟩, rfl⟩
    | some r =>
      obtain ⟨n, next⟩ := r
      have hbn := sizeO_bound hs
      by_cases hn : (n : Int) > 32
      · have HF : Hd (filesO o = (9, [])) := ⟨files_nocount HV.out HK.out (.inr ⟨n, next, hs, by omega⟩)⟩
        have HS := Hd.mk hs; clear hs
        go_wp2_with fail
        refine (readUint_ok _ (by omega) (by omega) HS).mono ?_; rintro e _ ⟨rfl, rfl⟩
        go_wp2
        go_ret2
        rw [HF.out]
        exact ⟨HE.out.trans HX1.out, none, 0, .inl ⟨rfl, rfl⟩, rfl⟩
      · have HS := Hd.mk hs; clear hs
        obtain ⟨_, _, hnx⟩ := hbn
        go_wp2_with fail
        refine (readUint_ok _ (by omega) (by omega) HS).mono ?_; rintro e _ ⟨rfl, rfl⟩
        go_wp2_with fail
        go_loopw [5, 7, 8] (fun a v i wr => ∃ (k at1 : Nat) (l : List FileT), i = .int .i64 (k : Int) ∧ a = .int .i64 (at1 : Int) ∧ k ≤ n ∧ at1 ≤ o.data.size ∧ Hd (pairsS o.data (next, 0) k = (l, (at1, 0))) ∧ wr.ownsRow w1.heap.size 41 2 v k (fcells l) ∧ Ext w1 wr) (fun _ _ i _ => n - (intOf i).toNat)
        case atStart => exact ⟨0, next, [], rfl, rfl, by omega, hnx, ⟨rfl⟩, own_nil _ _ _ _, Ext.refl _⟩
        case round =>
          clear q0 q1 q2
          obtain ⟨k, at1, l, rfl, rfl, hkn, hat, hps, hown, hext⟩ := hrel
          obtain ⟨q0, q1, q2⟩ := HC.out wr (HX1.out.trans hext)
          have HX := Hd.mk hext; have HO := Hd.mk hown; clear hext hown
          by_cases hlt : (k : Int) < n
          · cases ht : textO o.data at1 with
            | none =>
              have HF : Hd (filesO o = (9, [])) := ⟨files_corrupt (k := k + 1) HV.out HK.out HS.out (by omega) (by omega) (by
                rw [pairsS, hps.out]; simp only; rw [textS_no ht]; simp only; rw [textS_err (by simp)]; simp)⟩
              have HT := Hd.mk ht; clear ht
              go_wp2_with fail
              refine (readText_no _ (by omega) (by omega) HT).mono ?_; rintro e _ ⟨rfl, rfl⟩
              go_wp2
              go_ret2
              rw [HF.out]
              exact ⟨(HE.out.trans HX1.out).trans HX.out, none, 0, .inl ⟨rfl, rfl⟩, rfl⟩
            | some r1 =>
              obtain ⟨y1, a1⟩ := r1
              have hb1 := textO_bound ht
              have HT := Hd.mk ht; clear ht
              go_wp2_with fail
              refine (readText_ok _ (by omega) (by omega) HT).mono ?_; rintro e _ ⟨rfl, rfl⟩
              cases ht2 : textO o.data a1 with
              | none =>
                have HF : Hd (filesO o = (9, [])) := ⟨files_corrupt (k := k + 1) HV.out HK.out HS.out (by omega) (by omega) (by
                  rw [pairsS, hps.out]; simp only; rw [textS_ok HT.out]; simp only; rw [textS_no ht2]; simp)⟩
                have HT2 := Hd.mk ht2; clear ht2
                go_wp2_with fail
                refine (readText_no _ (by omega) (by omega) HT2).mono ?_; rintro e _ ⟨rfl, rfl⟩
                go_wp2
                go_ret2
                rw [HF.out]
                exact ⟨(HE.out.trans HX1.out).trans HX.out, none, 0, .inl ⟨rfl, rfl⟩, rfl⟩
              | some r2 =>
                obtain ⟨y2, a2⟩ := r2
                have hb2 := textO_bound ht2
                have HT2 := Hd.mk ht2; clear ht2
                have HN : Hd (pairsS o.data (next, 0) (k + 1) = (l ++ [(y1, y2)], (a2, 0))) := ⟨by
                  rw [pairsS, hps.out]; simp only; rw [textS_ok HT.out]; simp only; rw [textS_ok HT2.out]⟩
                go_wp2_with fail
                refine (readText_ok _ (by omega) (by omega) HT2).mono ?_; rintro e _ ⟨rfl, rfl⟩
                have h5 := HO.out
                have hsz5 : w1.heap.size ≤ wr.heap.size := HX.out.size
                have hk6 : k ≤ 1000000 := by omega
                go_wp2_with (at_builtin; refine app2 w1.heap.size rfl _ _ 34 41 (.agg #[.string ⟨#[]⟩, .string ⟨#[]⟩]) 32 rfl Tryz.underlying34 info_file3 rfl h5 (y := .string y1) (y' := .string y2) rfl rfl rfl rfl hsz5 hk6 (by decide) ?_; intro v6 w6 hown6 hg6 hat6; have HO6 := Hd.mk hown6; have HG6 := Hd.mk hg6; clear hown6 hg6 hat6 h5)
                go_roundw
                case rel =>
                  refine ⟨k + 1, a2, l ++ [(y1, y2)], by go_num, rfl, by omega, hb2.2.1, HN, ?_, HX.out.grown HG6.out (own_base HO.out)⟩
                  have := HO6.out
                  simpa [fcells] using this
                case measure => simp only [intOf]; omega
          · obtain rfl : k = n := by omega
            have hfr := files_read HV.out HK.out HS.out (by omega) hps.out hat
            have hln : l.length = k := by have := pairsS_len o.data (next, 0) k; rw [hps.out] at this; exact this
            have hsz : ∀ f ∈ l, f.1.size ≤ o.data.size ∧ f.2.size ≤ o.data.size := by have := pairsS_size o.data (next, 0) k; rw [hps.out] at this; exact this
            obtain ⟨A5, c5, rfl, hA5⟩ := row_own HO.out
            subst hln
            have HFR := Hd.mk hfr; have HSZ := Hd.mk hsz; have HA5 := Hd.mk hA5; clear hfr hsz hA5 hps
            by_cases hae : at1 = o.data.size
            · have hb : ((at1 : Int) != (o.data.size : Int)) = false := by simp [hae]
              have HAE := Hd.mk hae; clear hae
              by_cases har : arcE l = 0
              · have HAR := Hd.mk har; clear har
                go_wp2_with fail
                refine (validFiles_is l 0 HAR A5 c5 _ (by omega) (fun f hf => by have := HSZ.out f hf; omega) HA5.out).mono ?_; rintro e w2 ⟨rfl, hx2⟩
                have HX2 := Hd.mk hx2; clear hx2
                go_wp2
                go_ret2
                rw [HFR.out, if_pos ⟨HAR.out, HAE.out, HRE.out⟩]
                exact ⟨((HE.out.trans HX1.out).trans HX.out).trans HX2.out, A5, c5, HA5.out.ext HX2.out, rfl⟩
              · have har' : (arcE l != 0) = true := by simp [har]
                have HAR := Hd.mk har; clear har
                go_wp2_with fail
                refine (validFiles_is l _ ⟨rfl⟩ A5 c5 _ (by omega) (fun f hf => by have := HSZ.out f hf; omega) HA5.out).mono ?_; rintro e w2 ⟨rfl, hx2⟩
                have HX2 := Hd.mk hx2; clear hx2
                go_wp2
                go_ret2
                rw [HFR.out, if_neg (fun h => HAR.out h.1)]
                exact ⟨((HE.out.trans HX1.out).trans HX.out).trans HX2.out, none, 0, .inl ⟨rfl, rfl⟩, rfl⟩
            · have hb : ((at1 : Int) != (o.data.size : Int)) = true := by simp; omega
              have HAE := Hd.mk hae; clear hae
              go_wp2
              go_ret2
              rw [HFR.out, if_neg (fun h => HAE.out h.2.1)]
              exact ⟨(HE.out.trans HX1.out).trans HX.out, none, 0, .inl ⟨rfl, rfl⟩, rfl⟩
theorem filesR_any (o : Obj) (A : Option Addr) (c : Nat) (w : World) (hl : o.refs.length ≤ 9223372036854775807) (hd : o.data.size ≤ 9223372036854775807) (hA : StrsAt w A o.refs) :
    Calls Tryz.prog 22 #[.agg #[.int .i64 o.kind, .slice A o.refs.length c, .string o.data]] w (FilesPost w (filesO o)) := by
  by_cases h : validB o = true ∧ o.kind = 0
  · exact filesR_good o A c w h.1 h.2 hA
  · exact filesR_bad o A c w hl hd hA h
end Go.Proofs.YtfofapggmoibkaaGreatDoor
