/- The program's SHA-256, walked: one block. The program's SHA-256, walked: Write. The program's SHA-256, walked: Sum. -/
import Derived.Test.YtfofapggmoibkaaGreatDoorProg
import Derived.Test.YtfofapggmoibkaaGreatDoorShaV
import Derived.Test.YtfofapggmoibkaaGreatDoorShelf
import Derived.Test.YtfofapggmoibkaaGreatDoorShaY
set_option linter.unusedVariables false
set_option linter.unusedSimpArgs false
namespace Go.Proofs.YtfofapggmoibkaaGreatDoor
open Go Go.RowKit

def zeros8 : Array Value := wds [0, 0, 0, 0, 0, 0, 0, 0]
theorem info_8w : (Tryz.prog.info? 136).map (fun i => (i.zero, i.size)) = some (some (.agg zeros8), 8) := by kernel_rfl
/-- the words after m sums -/
def mixL (s t : St) (m : Nat) : List Nat := (stL (addS s t)).take m ++ (stL s).drop m
theorem mixL_get (s t : St) (m : Nat) (h : m < 8) : (mixL s t m)[m]? = some ((stL s).getD m 0) := by
  rcases m with _ | _ | _ | _ | _ | _ | _ | _ | m <;> first | rfl | omega
theorem mixL_set (s t : St) (m : Nat) (h : m < 8) : (mixL s t m).set m (add32 ((stL s).getD m 0) ((stL t).getD m 0)) = mixL s t (m + 1) := by
  rcases m with _ | _ | _ | _ | _ | _ | _ | _ | m <;> first | rfl | omega
theorem mixL_len (s t : St) (m : Nat) : (mixL s t m).length = 8 := by simp [mixL, stL, List.length_drop]; omega
def mixV (s t : St) (m : Nat) (rest : ByteArray) (total : Nat) : Array Value := (u32s (mixL s t m) ++ [Value.string rest, Value.int .u64 total]).toArray
theorem mixV_zero (s t : St) (rest : ByteArray) (total : Nat) : mixV s t 0 rest total = hashV s rest total := rfl
theorem mixV_all (s t : St) (rest : ByteArray) (total : Nat) : mixV s t 8 rest total = hashV (addS s t) rest total := rfl
theorem mixV_get (s t : St) (m : Nat) (h : m < 8) (rest : ByteArray) (total : Nat) : (mixV s t m rest total)[m]? = some (.int .u32 (((stL s).getD m 0 : Nat) : Int)) := by
  simp only [mixV, List.getElem?_toArray]
  rw [List.getElem?_append_left (by rw [u32s_length, mixL_len]; exact h)]
  simp only [u32s, List.getElem?_map, mixL_get s t m h, Option.map_some]
theorem mixV_set (s t : St) (m : Nat) (h : m < 8) (rest : ByteArray) (total : Nat) : (mixV s t m rest total).setIfInBounds m (.int .u32 ((add32 ((stL s).getD m 0) ((stL t).getD m 0) : Nat) : Int)) = mixV s t (m + 1) rest total := by
  simp only [mixV, List.setIfInBounds_toArray]
  rw [List.set_append_left _ _ (by rw [u32s_length, mixL_len]; exact h), ← mixL_set s t m h]
  simp only [u32s, List.map_set]
theorem stL_get (t : St) (m : Nat) (h : m < 8) : (wds (stL t))[m]? = some (.int .u32 (((stL t).getD m 0 : Nat) : Int)) := by
  rcases m with _ | _ | _ | _ | _ | _ | _ | _ | m <;> first | rfl | omega

theorem hashRange {w : World} {g : Nat} {s : St} {rest : ByteArray} {total : Nat} (h : HashAt w g s rest total) : w.rangeAt g 0 (u32s (stL s)) := by
  have := World.rangeAt_of_block h 0 8
  rwa [show ((hashV s rest total).extract 0 (0 + 8)).toList = u32s (stL s) by simp [hashV, u32s, stL]] at this
theorem HashAt.ext {w w' : World} {g : Nat} {s : St} {rest : ByteArray} {total : Nat} (h : HashAt w g s rest total) (hx : Ext w w') : HashAt w' g s rest total := hx.obj h

set_option maxRecDepth 100000 in
set_option maxHeartbeats 8000000 in
theorem addP_any (s : St) (hs : s.ok) (rest : ByteArray) (total : Nat) (b : ByteArray) (hb : b.size = 64) (g : Nat) (w : World) (h : HashAt w g s rest total) :
    Calls Tryz.prog 107 #[.pointer (some ⟨g, 0, none⟩), .string b] w fun e w' => e = .returned (.tuple #[]) ∧ HashAt w' g (compressS s b) rest total ∧ But w w' g := by
  have HB := Hd.mk hb; clear hb
  have HS := Hd.mk hs; clear hs
  have HG := Hd.mk (Array.getElem?_eq_some_iff.1 h).1
  have HH := Hd.mk h; clear h
  go_enter Tryz.func107, Tryz.ntmps107
  go_wp2_with fail
  refine (scheduleP_any b HB.out _).mono ?_; rintro e w1 ⟨rfl, hx1⟩
  go_wp2_with fail
  refine (constantsP_any _).mono ?_; rintro e w2 ⟨rfl, hx2⟩
  have HX2 := Hd.mk (hx1.trans hx2); clear hx1 hx2
  have s1 : (wds zeros64).size = (wds (sched b 64)).size := by rw [wds_size, wds_size, sched_len]; rfl
  have s2 : (wds zeros64).size = (wds shaK).size := by rw [wds_size, wds_size]; rfl
  have s3 : (Tryz.prog.info? 162).map (fun i => (i.zero, i.size)) = some (some (.agg (wds zeros64)), (wds zeros64).size) := info_64.trans (by rw [wds_size]; rfl)
  have S1 := Hd.mk s1; have S2 := Hd.mk s2; have S3 := Hd.mk s3; clear s1 s2 s3
  go_wp2_with (first
    | (refine boxRow2 162 (wds zeros64) ?_ (wds (sched b 64)) (wds shaK) (n := 111) ?_ ?_ ?_ ?_ ?_ ?_ ?_ ?_ ?_; exact S3.out; rfl; decide; rfl; rfl; exact S1.out; exact wds_one _; exact S2.out; exact wds_one _; intro W1 hA hK hxW hzW; have HA := Hd.mk hA; have HK := Hd.mk hK; have HX3 := Hd.mk hxW; have HZ := Hd.mk hzW; clear hA hK hxW hzW)
    | (refine copyMid 136 zeros8 ?_ g 0 (u32s (stL s)) _ (n := 111) ?_ ?_ ?_ ?_ Tryz.underlying136 ?_ ?_ ?_ ?_; exact info_8w; rfl; decide; rfl; exact hashRange ((HH.out.ext HX2.out).ext HX3.out); rfl; rfl; exact wds_one _; intro W2 hV hxV hzV; rw [HZ.out] at hV; have HV := Hd.mk hV; have HX4 := Hd.mk hxV; clear hV hxV hzV))
  have HXW := Hd.mk ((HX2.out.trans HX3.out).trans HX4.out)
  have HA2 := Hd.mk (HX4.out.obj HA.out)
  have HK2 := Hd.mk (HX4.out.obj HK.out)
  have HS8 := Hd.mk HX2.out.size
  rw [show W1.heap.size = w2.heap.size + 2 from HZ.out]
  generalize hH : w2.heap.size = H at *
  clear S1 S2 S3 HA HK HX3 HX4 HZ hH HX2
  go_loopw [26] (fun i wr => ∃ (n : Nat) (t : St), t = roundsS s (sched b 64) n ∧ i = .int .i64 (n : Int) ∧ n ≤ 64 ∧ wr.heap[H]? = some (.cells (wds (sched b 64)) 162 (0, 0)) ∧ wr.heap[H + 1]? = some (.cells (wds shaK) 162 (0, 0)) ∧ wr.heap[H + 2]? = some (.cells (wds (stL t)) 136 (0, 0)) ∧ Ext w wr) (fun i _ => 100 - (intOf i).toNat)
  case atStart => exact ⟨0, s, rfl, rfl, by omega, HA2.out, HK2.out, HV.out, HXW.out⟩
  case round =>
    clear HA2 HK2 HV HXW
    obtain ⟨n, t, ht, rfl, hn, hA, hK, hV, hext⟩ := hrel
    have HT := Hd.mk ht; clear ht
    by_cases hlt : n < 64
    · have TB : Hd t.ok := ⟨by rw [HT.out]; exact roundsS_ok HS.out _ _⟩
      have ck := cell_of hK (j := n) (v := .int .u32 ((shaK.getD n 0 : Nat) : Int)) (by simp [wds, u32s, List.getD_eq_getElem?_getD, List.getElem?_eq_getElem (show n < shaK.length by rw [shaK_len]; exact hlt)])
      have cw := cell_of hA (j := n) (v := .int .u32 (((sched b 64).getD n 0 : Nat) : Int)) (by simp [wds, u32s, List.getD_eq_getElem?_getD, List.getElem?_eq_getElem (show n < (sched b 64).length by rw [sched_len]; exact hlt)])
      generalize hkv : shaK.getD n 0 = kv at ck
      generalize hwv : (sched b 64).getD n 0 = wv at cw
      have c0 := cell_of hV (j := 0) (v := .int .u32 (t.a : Int)) rfl
      have c1 := cell_of hV (j := 1) (v := .int .u32 (t.b : Int)) rfl
      have c2 := cell_of hV (j := 2) (v := .int .u32 (t.c : Int)) rfl
      have c3 := cell_of hV (j := 3) (v := .int .u32 (t.d : Int)) rfl
      have c4 := cell_of hV (j := 4) (v := .int .u32 (t.e : Int)) rfl
      have c5 := cell_of hV (j := 5) (v := .int .u32 (t.f : Int)) rfl
      have c6 := cell_of hV (j := 6) (v := .int .u32 (t.g : Int)) rfl
      have c7 := cell_of hV (j := 7) (v := .int .u32 (t.h : Int)) rfl
      have HK := Hd.mk hkv; clear hkv
      have HW := Hd.mk hwv; clear hwv
      have HA := Hd.mk hA; clear hA
      have HK2 := Hd.mk hK; clear hK
      have HV := Hd.mk hV; clear hV
      have HC6 := Hd.mk (And.intro c0 (And.intro c1 (And.intro c2 (And.intro c4 (And.intro c5 c6)))))
      have HC3 := Hd.mk c3
      have HC7 := Hd.mk (And.intro c7 (And.intro ck cw))
      clear c0 c1 c2 c3 c4 c5 c6 c7 ck cw
      go_wp2
      refine wp_region_pi (fun w' => w'.cell? ⟨H + 2, 0, none⟩ = some (.int .u32 (t.a : Int)) ∧ w'.cell? ⟨H + 2, 1, none⟩ = some (.int .u32 (t.b : Int)) ∧ w'.cell? ⟨H + 2, 2, none⟩ = some (.int .u32 (t.c : Int)) ∧ w'.cell? ⟨H + 2, 4, none⟩ = some (.int .u32 (t.e : Int)) ∧ w'.cell? ⟨H + 2, 5, none⟩ = some (.int .u32 (t.f : Int)) ∧ w'.cell? ⟨H + 2, 6, none⟩ = some (.int .u32 (t.g : Int))) [(true, 0), (true, 1), (true, 2), (true, 3), (true, 4), (true, 5), (true, 6), (true, 7), (true, 8), (true, 9), (true, 10), (true, 11), (true, 12), (true, 13), (true, 14), (true, 15), (true, 16), (true, 17)] (by kernel_rfl) (by kernel_rfl) (by intro c a d v w h; cases d <;> exact h) ?_
      iterate 18 (refine pi_still rfl HC6.out rfl (fun w' hS => by obtain ⟨s0, s1, s2, s3, s4, s5⟩ := hS; go_simp; rfl) ?_; intro K hK; go_simp; refine hK _ _ ?_; clear hK K)
      refine pi_nil ?_
      go_wp2
      have i0 : (0 : Int) ≤ (n : Int) := by omega
      have i1 : (n : Int) < 64 := by omega
      have hadd := add_val
      have hM : (if IntKind.u32.signed = true then (-1 : Int) else IntKind.u32.max) = 4294967295 := rfl
      have hC := choose_val t.e t.f t.g TB.out.e TB.out.f TB.out.g
      refine wp_region_pi (fun w' => w'.cell? ⟨H + 2, 7, none⟩ = some (.int .u32 (t.h : Int)) ∧ w'.cell? ⟨H + 1, n, none⟩ = some (.int .u32 (kv : Int)) ∧ w'.cell? ⟨H, n, none⟩ = some (.int .u32 (wv : Int))) [(true, 0), (true, 1), (true, 2), (true, 3), (true, 6), (true, 7), (true, 8), (true, 9), (true, 10), (true, 11), (true, 12), (true, 13), (true, 15), (true, 16), (true, 17), (true, 19), (true, 20), (true, 21), (false, 4), (true, 5), (true, 14), (true, 18), (true, 22), (true, 23)] (by kernel_rfl) (by kernel_rfl) (by intro c a d v w h; cases d <;> exact h) ?_
      iterate 18 (refine pi_still rfl HC7.out rfl (fun w' hS => by obtain ⟨s0, s1, s2⟩ := hS; go_simp; rfl) ?_; intro K hK; go_simp; refine hK _ _ ?_; clear hK K)
      refine pi_act rfl rfl ?_; intro K hK; go_simp; refine (bigfn_any t.e 6 11 25 _ TB.out.e (by omega) (by omega) (by omega) (by omega) (by omega) (by omega)).mono ?_; rintro e _ ⟨rfl, rfl⟩; refine hK _ _ HC7.out ?_; clear hK K
      iterate 5 (refine pi_still rfl HC7.out rfl (fun w' hS => by obtain ⟨s0, s1, s2⟩ := hS; go_simp; rfl) ?_; intro K hK; go_simp; refine hK _ _ ?_; clear hK K)
      refine pi_nil ?_
      clear hC hM hadd i0 i1
      have hadd2 := add_mod
      have hmaj := major_val t.a t.b t.c TB.out.a TB.out.b TB.out.c
      go_wp2_with fail
      refine (bigfn_any t.a 2 13 22 _ TB.out.a (by omega) (by omega) (by omega) (by omega) (by omega) (by omega)).mono ?_; rintro e _ ⟨rfl, rfl⟩
      have c3 := HC3.out
      go_wp2_with (refine stRow 136 (H + 2) (wds (stL (stepS t kv wv))) ?_ ?_ 136 (wds (stL t)) ?_ ?_ ?_ ?_ ?_; rfl; rfl; exact HV.out; rfl; rfl; exact wds_one _)
      clear hadd2 hmaj
      refine ⟨⟨n + 1, stepS t kv wv, by rw [roundsS, ← HT.out, HK.out, HW.out], vint (by simp), by omega, (setRow_other wr.drew.drew _ _ _ (by omega)).trans HA.out, (setRow_other wr.drew.drew _ _ _ (by omega)).trans HK2.out, row_block (w := wr.drew.drew) HV.out, ?_⟩, by simp only [intOf]; omega⟩
      exact ((hext.drew).drew).row (by have := HS8.out; omega) _
    · obtain rfl : n = 64 := by omega
      have hg0 := hext.obj (show w.heap[g]? = some (.cells (mixV s t 0 rest total) 138 (0, 0)) from HH.out)
      have hti : t.ok := by rw [HT.out]; exact roundsS_ok HS.out _ _
      obtain ⟨cs, hcs⟩ : ∃ cs, cs = wds (stL t) := ⟨_, rfl⟩
      rw [← hcs] at hV
      have hix : ∀ (m : Nat), m < 8 → ∀ w', (Instr.index 136 (.agg cs) (.int .i64 (m : Int))).run Tryz.prog w' = .ok (.int .u32 (((stL t).getD m 0 : Nat) : Int)) w' := fun m hm w' => by
        rw [hcs]
        exact run_idxAgg w' _ _ 8 _ _ _ _ Tryz.underlying136 Tryz.isAgg112 Tryz.sizeOf112 (by omega) (by omega) (by rw [Int.toNat_natCast]; exact stL_get t m hm)
      have hsz : cs.size = 8 := by rw [hcs]; rfl
      have HIX := Hd.mk hix; have HV := Hd.mk hV; have HG0 := Hd.mk hg0; have HCS := Hd.mk hcs; have HSZ := Hd.mk hsz; have HTI := Hd.mk hti
      have HXQ := Hd.mk hext
      clear hix hV hg0 hcs hsz hA hK hti
      go_wp2_with (refine ldRow 136 (H + 2) ?_ 136 cs _ HV.out Tryz.underlying136 ?_ ?_ ?_; rfl; rfl; rw [HSZ.out]; exact (zero_of_info info_8w).2)
      obtain ⟨wq, rfl⟩ : ∃ x, x = wr := ⟨_, rfl⟩
      go_loopw [95] (fun i wr => ∃ (m : Nat), i = .int .i64 (m : Int) ∧ m ≤ 8 ∧ wr.heap[g]? = some (.cells (mixV s t m rest total) 138 (0, 0)) ∧ But w wr g) (fun i _ => 100 - (intOf i).toNat)
      case atStart => exact ⟨0, rfl, by omega, HG0.out, But.of HXQ.out g⟩
      case round =>
        clear hext
        obtain ⟨m, rfl, hm, hrow, hbut⟩ := hrel
        by_cases hlt2 : m < 8
        · have hi := HIX.out m hlt2
          have hc := cell_of hrow (mixV_get s t m hlt2 rest total)
          have hfr := free_of hrow m
          have hset := mixV_set s t m hlt2 rest total
          generalize hx : (stL s).getD m 0 = x at *
          generalize hy : (stL t).getD m 0 = y at *
          have HR := Hd.mk hrow; have HST := Hd.mk hset; clear hrow hset hx hy
          go_wp2
          have i0 : (0 : Int) ≤ (m : Int) := by omega
          have i1 : (m : Int) < 8 := by omega
          have hadd := add_val
          refine wp_region_pi (fun _ => True) [(true, 0), (true, 1), (true, 2), (true, 3), (true, 4), (true, 6), (true, 8), (true, 9), (false, 5), (true, 7), (true, 10), (false, 11)] (by kernel_rfl) (by kernel_rfl) (by intro c a d v w h; cases d <;> exact h) ?_
          iterate 8 (refine pi_still rfl trivial rfl (fun w' hS => by go_simp; rfl) ?_; intro K hK; go_simp; refine hK _ _ ?_; clear hK K)
          refine pi_act rfl rfl ?_; intro K hK; go_simp; refine hK _ _ trivial ?_; clear hK K
          iterate 2 (refine pi_still rfl trivial rfl (fun w' hS => by go_simp; rfl) ?_; intro K hK; go_simp; refine hK _ _ ?_; clear hK K)
          refine pi_act rfl rfl ?_; intro K hK; go_simp; refine hK _ _ trivial ?_; clear hK K
          refine pi_nil ?_
          clear hadd hi
          go_wp2
          go_roundw
          case rel =>
            refine ⟨m + 1, vint (by simp), by omega, (set_block (w := wr.drew) HR.out _).trans (by rw [HST.out]), (hbut.trans (But.of ((Ext.refl wr).drew) g)).set m _⟩
          case measure => simp only [intOf]; omega
        · obtain rfl : m = 8 := by omega
          go_wp2
          go_end0
          refine ⟨rfl, ?_, hbut⟩
          rw [HashAt, hrow, mixV_all, compressS, ← HT.out]
end Go.Proofs.YtfofapggmoibkaaGreatDoor
namespace Go.Proofs.YtfofapggmoibkaaGreatDoor
open Go Go.RowKit

theorem ex_front (M : ByteArray) (a n : Nat) (h : a + n ≤ M.size) : (M.extract a M.size).extract 0 n = M.extract a (a + n) := by
  rw [ByteArray.extract_extract, Nat.add_zero, Nat.min_eq_left h]
theorem ex_back (M : ByteArray) (a n : Nat) (h : a + n ≤ M.size) : (M.extract a M.size).extract n (M.extract a M.size).size = M.extract (a + n) M.size := by
  rw [ByteArray.extract_extract, ByteArray.size_extract, Nat.min_self, show a + (M.size - a) = M.size by omega, Nat.min_self]
theorem app_front (m s : ByteArray) (a b : Nat) (hb : b ≤ m.size) : (m ++ s).extract a b = m.extract a b := by
  rw [ByteArray.extract_append, show b - m.size = 0 by omega]
  have e : s.extract (a - m.size) 0 = ByteArray.empty := by
    rw [ByteArray.extract_eq_empty_iff]; omega
  rw [e, ByteArray.append_empty]
theorem app_back (m s : ByteArray) (a : Nat) (ha : a ≤ m.size) : (m ++ s).extract a (m ++ s).size = m.extract a m.size ++ s := by
  rw [ByteArray.extract_append, ByteArray.size_append, show a - m.size = 0 by omega, show m.size + s.size - m.size = s.size by omega]
  have e1 : s.extract 0 s.size = s := ByteArray.extract_zero_size
  have e2 : m.extract a (m.size + s.size) = m.extract a m.size := by
    have h := @ByteArray.extract_extract m 0 m.size a (m.size + s.size)
    rw [ByteArray.extract_zero_size, Nat.zero_add, Nat.zero_add, Nat.min_eq_right (by omega)] at h
    exact h
  rw [e1, e2]
theorem foldS_app (m s : ByteArray) : ∀ k, 64 * k ≤ m.size → foldS (m ++ s) k = foldS m k
  | 0, _ => rfl
  | k + 1, h => by
    rw [foldS, foldS, foldS_app m s k (by omega), app_front m s _ _ (by omega)]
def strLen : Value → Nat | .string s => s.size | _ => 0
/-- the state after the bytes m -/
def HashOf (w : World) (g : Nat) (m : ByteArray) : Prop := HashAt w g (foldS m (m.size / 64)) (m.extract (64 * (m.size / 64)) m.size) m.size

set_option maxRecDepth 100000 in
set_option maxHeartbeats 400000 in
theorem stringsClone (s : ByteArray) (w : World) (hs : s.size ≤ 1000000000) : Calls Tryz.prog 108 #[.string s] w fun e w' => e = .returned (.string s) ∧ Ext w w' := by
  go_enter Tryz.func108, Tryz.ntmps108
  go_wp2_with (go_at_call 139; refine (Tryz.stringslite_Clone _ _ (by omega)).mono ?_; rintro e w1 ⟨rfl, hx⟩)
  go_ret
  exact ⟨rfl, by assumption⟩

set_option maxRecDepth 100000 in
set_option maxHeartbeats 2000000 in
theorem writeP_any (m s : ByteArray) (hm : m.size ≤ 100000000) (hs : s.size ≤ 100000000) (g : Nat) (w : World) (h : HashOf w g m) :
    Calls Tryz.prog 80 #[.pointer (some ⟨g, 0, none⟩), .string s] w fun e w' => e = .returned (.tuple #[]) ∧ HashOf w' g (m ++ s) ∧ But w w' g := by
  obtain ⟨r, hr⟩ : ∃ r, r = m.extract (64 * (m.size / 64)) m.size := ⟨_, rfl⟩
  obtain ⟨S, hS⟩ : ∃ S, S = foldS m (m.size / 64) := ⟨_, rfl⟩
  have hsz : r.size ≤ 63 := by rw [hr, ByteArray.size_extract]; omega
  obtain ⟨M, hM⟩ : ∃ M, M = m ++ s := ⟨_, rfl⟩
  have hrs : r ++ s = M.extract (64 * (m.size / 64)) M.size := by rw [hr, hM, app_back _ _ _ (by omega)]
  have hSM : S = foldS M (m.size / 64) := by rw [hS, hM, foldS_app _ _ _ (by omega)]
  have hMs : M.size = m.size + s.size := by rw [hM, ByteArray.size_append]
  unfold HashOf at h
  rw [← hr, ← hS] at h
  obtain ⟨q, hq⟩ : ∃ q, q = m.size / 64 := ⟨_, rfl⟩
  obtain ⟨n0, hn0⟩ : ∃ n, n = m.size := ⟨_, rfl⟩
  rw [← hq] at hrs hSM
  rw [← hn0] at h hMs
  have hn0b : n0 ≤ 100000000 := by omega
  have HQ : Hd (64 * q ≤ M.size) := ⟨by omega⟩
  have HRS := Hd.mk hrs; have HSM := Hd.mk hSM; have HM := Hd.mk hM; have HMS := Hd.mk hMs
  have h8 := cell_of h (j := 8) (v := .string r) rfl
  have h9 := cell_of h (j := 9) (v := .int .u64 (n0 : Int)) rfl
  have hf := free_of h 9
  have HH := Hd.mk h; clear h
  clear hr hS hrs hSM hM hMs hq hn0
  have hu : IntKind.u64.wrap ((n0 : Int) + (s.size : Int)) = ((n0 + s.size : Nat) : Int) := by rw [show (n0 : Int) + (s.size : Int) = ((n0 + s.size : Nat) : Int) by simp, wrap_u _ rfl]; simp only [IntKind.bits]; omega
  have HU := Hd.mk hu; clear hu
  go_enter Tryz.func80, Tryz.ntmps80
  go_wp2
  have hbl : HashAt (w.setCell ⟨g, 9, none⟩ (.int .u64 ((n0 : Int) + (s.size : Int)))) g S r (n0 + s.size) := by
    refine (set_block HH.out _).trans ?_
    rw [show (hashV S r n0).setIfInBounds 9 (.int .u64 ((n0 : Int) + (s.size : Int))) = hashV S r (n0 + s.size) from by rw [show (n0 : Int) + (s.size : Int) = ((n0 + s.size : Nat) : Int) by simp]; rfl]
  have HB0 := Hd.mk hbl; clear hbl h8 h9 hf
  go_loopw [1] (fun v wr => ∃ (k : Nat) (t : ByteArray), v = .string t ∧ t = M.extract (64 * k) M.size ∧ 64 * k ≤ M.size ∧ HashAt wr g (foldS M k) r M.size ∧ But w wr g) (fun v _ => strLen v)
  case atStart => exact ⟨q, r ++ s, rfl, HRS.out, HQ.out, by rw [← HSM.out, HMS.out]; exact HB0.out, (But.of (Ext.refl w) g).set 9 _⟩
  case round =>
    obtain ⟨k, t, rfl, ht, hk, hat, hbut⟩ := hrel
    have htz : t.size = M.size - 64 * k := by rw [ht, ByteArray.size_extract]; omega
    have hMz := HMS.out
    by_cases hlt : 64 ≤ t.size
    · have hz64 : (t.extract 0 64).size = 64 := by rw [ByteArray.size_extract]; omega
      have hfr : t.extract 0 64 = M.extract (64 * k) (64 * k + 64) := by rw [ht, ex_front _ _ _ (by omega)]
      have hbk : t.extract 64 t.size = M.extract (64 * (k + 1)) M.size := by rw [ht, ex_back _ _ _ (by omega)]; rfl
      have HFR := Hd.mk hfr; have HBK := Hd.mk hbk; have HZ := Hd.mk hz64; have HT := Hd.mk ht
      have htz2 : t.size ≤ 200000000 := by omega
      have hk2 : 64 * (k + 1) ≤ M.size := by omega
      have HTZ := Hd.mk htz
      clear hfr hbk hz64 ht htz hMz
      go_wp2_with fail
      refine (addP_any (foldS M k) (foldS_ok _ _) r M.size _ HZ.out g _ hat).mono ?_; rintro e w2 ⟨rfl, hat2, hbut2⟩
      go_wp2
      go_roundw
      case rel => exact ⟨k + 1, _, rfl, HBK.out, hk2, by rw [foldS, ← HFR.out]; exact hat2, hbut.trans hbut2⟩
      case measure => rw [strLen, strLen, ByteArray.size_extract]; omega
    · have hkq : k = M.size / 64 := by omega
      have HT := Hd.mk ht; have HK := Hd.mk hkq; have HTZ := Hd.mk htz
      have ht63 : t.size ≤ 63 := by omega
      clear ht hkq htz hMz hk
      have h8 := cell_of hat (j := 8) (v := .string r) rfl
      have HAT := Hd.mk hat; clear hat
      go_wp2_with (go_at_call 108; refine (stringsClone _ _ (by omega)).mono ?_; rintro e w1 ⟨rfl, hx⟩; have HX := Hd.mk hx; have hat1 := HX.out.obj (show wr.heap[g]? = _ from HAT.out); have h81 := cell_of hat1 (j := 8) (v := .string r) rfl; have hf1 := free_of hat1 8; have HAT1 := Hd.mk hat1; clear hx hat1)
      go_end0
      refine ⟨rfl, ?_, (hbut.trans (But.of HX.out g)).set 8 _⟩
      rw [← HM.out]
      have e1 := (set_block HAT1.out (j := 8) (.string t))
      rw [show (hashV (foldS M k) r M.size).setIfInBounds 8 (.string t) = hashV (foldS M k) t M.size from rfl] at e1
      unfold HashOf HashAt
      rw [← HK.out, ← HT.out]
      exact e1
end Go.Proofs.YtfofapggmoibkaaGreatDoor
namespace Go.Proofs.YtfofapggmoibkaaGreatDoor
open Go Go.RowKit

def be8B (n : Nat) : ByteArray := ⟨(be8 n).toArray⟩
theorem be8B_size (n : Nat) : (be8B n).size = 8 := rfl
def zerosB (n : Nat) : ByteArray := ⟨(List.replicate n 0).toArray⟩
theorem zerosB_size (n : Nat) : (zerosB n).size = n := by rw [zerosB, ba_size]; simp
theorem numberP_int (n : Int) (h0 : 0 ≤ n) (h1 : n < 18446744073709551616) (w : World) : Calls Tryz.prog 111 #[.int .u64 n] w fun e w' => e = .returned (.string (be8B n.toNat)) ∧ Ext w w' := by
  obtain ⟨m, rfl⟩ := Int.eq_ofNat_of_zero_le h0
  exact numberP_any m (by omega) w
theorem repeatZ (c : Int) (h0 : 0 ≤ c) (h1 : c ≤ 1000) (w : World) : Calls Tryz.prog 110 #[.string ⟨#[0]⟩, .int .i64 c] w fun e w' => e = .returned (.string (zerosB c.toNat)) ∧ Ext w w' := by
  obtain ⟨n, rfl⟩ := Int.eq_ofNat_of_zero_le h0
  refine (Tryz.strings_Repeat ⟨#[0]⟩ n w (by omega) (by show 1 * n ≤ _; omega)).mono ?_
  rintro e w' ⟨rfl, h⟩
  refine ⟨?_, h⟩
  have e1 : ∀ n, Lib.repeatL [0] n = List.replicate n 0 := by
    intro n
    induction n with
    | zero => rfl
    | succ n ih => rw [Lib.repeatL, ih, List.replicate_succ]; rfl
  show Ending.returned (.string ⟨(Lib.repeatL [0] n).toArray⟩) = _
  rw [e1]; rfl
theorem pad_app (m : ByteArray) : m ++ ((⟨#[128]⟩ : ByteArray) ++ zerosB (zerosOf m.size) ++ be8B (8 * m.size)) = padded m := by
  apply ByteArray.ext
  apply Array.ext'
  simp [padded, zerosB, be8B]
abbrev be4W (x : Nat) : List Value := [Value.int .u8 ((x : Int) / 16777216), .int .u8 ((x : Int) / 65536 % 256), .int .u8 ((x : Int) / 256 % 256), .int .u8 ((x : Int) % 256)]
theorem be4W_ys (x : Nat) (h : x < 4294967296) : be4W x = u8s (be4 x) := by
  simp [be4W, u8s, be4]
  omega
theorem be4W_one (x : Nat) : ∀ u ∈ be4W x, u.oneCell' = true := by simp [be4W, Value.oneCell']
theorem But.ext {a b c : World} {g : Nat} (h : Ext a b) (k : But b c g) (hg : a.heap.size ≤ g) : Ext a c := h.grown k (by intro i hi; injection hi; omega)

set_option maxRecDepth 100000 in
set_option maxHeartbeats 4000000 in
theorem hashSum_any (m : ByteArray) (hm : m.size ≤ 50000000) (g : Nat) (w : World) (h : HashOf w g m) :
    Calls Tryz.prog 81 #[.pointer (some ⟨g, 0, none⟩)] w fun e w' => e = .returned (.string (sha m)) ∧ Ext w w' := by
  obtain ⟨r, hr⟩ : ∃ r, r = m.extract (64 * (m.size / 64)) m.size := ⟨_, rfl⟩
  have hsz : r.size = m.size % 64 := by rw [hr, ByteArray.size_extract]; omega
  have hsz2 : r.size ≤ 63 := by omega
  have HH := Hd.mk h
  have h9 := cell_of h (j := 9) (v := .int .u64 (m.size : Int)) rfl
  have HR := Hd.mk hr; have HSZ := Hd.mk hsz
  clear h hr hsz
  go_enter Tryz.func81, Tryz.ntmps81
  go_wp2_with fail
  refine (cloneP_any _ g _ _ _ HH.out).mono ?_; rintro e w1 ⟨rfl, hc1, hx1⟩
  rw [← HR.out] at hc1
  have c8 := cell_of hc1 (j := 8) (v := .string r) rfl
  have HC1 := Hd.mk hc1; clear hc1
  have h91 := hx1.cell h9
  have HX1 := Hd.mk hx1; clear hx1 h9
  go_wp2_with fail
  have x1 : IntKind.u64.wrap (8 * (m.size : Int)) = 8 * (m.size : Int) := by rw [show 8 * (m.size : Int) = ((8 * m.size : Nat) : Int) by simp, wrap_u _ rfl]; simp only [IntKind.bits]; omega
  have hq : ((119 : Int) - (r.size : Int)) % 64 = ((zerosOf m.size : Nat) : Int) := by have := HSZ.out; unfold zerosOf; omega
  have hzb : zerosOf m.size ≤ 63 := by unfold zerosOf; omega
  rw [hq]
  clear hq
  have HC9 := fun w2 (hx : Ext w1 w2) => Hd.mk (hx.cell h91)
  refine wp_region_pi (fun w' => w'.cell? ⟨g, 9, none⟩ = some (.int .u64 (m.size : Int))) [(true, 0), (true, 1), (true, 4), (true, 5), (true, 6), (true, 7), (true, 8), (false, 2), (true, 3), (false, 9), (true, 10), (false, 11)] (by kernel_rfl) (by kernel_rfl) (by intro c a d v w h; cases d <;> exact h) ?_
  iterate 7 (refine pi_still rfl (HC9 _ ((Ext.refl w1).drew)).out rfl (fun w' hS => by go_simp; rfl) ?_; intro K hK; go_simp; refine hK _ _ ?_; clear hK K)
  refine pi_act rfl rfl ?_; intro K hK; go_simp; refine (repeatZ _ (by omega) (by omega) _).mono ?_; rintro e w2 ⟨rfl, hx2⟩
  have HX2 := Hd.mk ((Ext.refl w1).drew.trans hx2); clear hx2
  rw [Int.toNat_natCast]
  refine hK _ _ (HC9 _ HX2.out).out ?_; clear hK K
  have hz1 := zerosB_size (zerosOf m.size)
  generalize hzz : zerosB (zerosOf m.size) = z1 at *
  have hz1b : z1.size ≤ 63 := by omega
  have HZZ := Hd.mk hzz; clear hzz hz1
  have hcat : ¬ 9223372036854775807 < 1 + z1.size := by omega
  refine pi_still rfl (HC9 _ HX2.out).out rfl (fun w' hS => by go_simp; rfl) ?_; intro K hK; go_simp; refine hK _ _ ?_; clear hK K
  refine pi_act rfl rfl ?_; intro K hK; go_simp; refine (numberP_int _ (by omega) (by omega) _).mono ?_; rintro e w3 ⟨rfl, hx3⟩
  have HX3 := Hd.mk (HX2.out.trans hx3); clear hx3
  rw [show (8 * (m.size : Int)).toNat = 8 * m.size by omega]
  refine hK _ _ (HC9 _ HX3.out).out ?_; clear hK K
  have hz2 := be8B_size (8 * m.size)
  generalize hzz : be8B (8 * m.size) = z2 at *
  have HZ2 := Hd.mk hzz; clear hzz
  have hz2b : z2.size ≤ 8 := by omega
  clear hz2
  have hcat2 : ¬ 9223372036854775807 < 1 + z1.size + z2.size := by omega
  refine pi_still rfl (HC9 _ HX3.out).out rfl (fun w' hS => by go_simp; rfl) ?_; intro K hK; go_simp; refine hK _ _ ?_; clear hK K
  clear hcat hcat2 x1
  refine pi_act rfl rfl ?_; intro K hK; go_simp
  have hpz : ((⟨#[128]⟩ : ByteArray) ++ z1 ++ z2).size ≤ 100 := by
    rw [ByteArray.size_append, ByteArray.size_append, show (⟨#[128]⟩ : ByteArray).size = 1 from rfl]; omega
  refine (writeP_any m _ (by omega) (by omega) w.heap.size _ ?_).mono ?_
  · show HashAt _ _ _ _ _
    rw [← HR.out]
    exact HX3.out.obj HC1.out
  rintro e w4 ⟨rfl, hh4, hb4⟩
  have hx4 : Ext w w4 := But.ext (HX1.out.trans HX3.out) hb4 (Nat.le_refl _)
  rw [← HZZ.out, ← HZ2.out, pad_app] at hh4
  refine hK _ _ (hx4.cell (by have := HH.out; exact cell_of this (j := 9) rfl)) ?_; clear hK K
  refine pi_nil ?_
  have HX4 := Hd.mk hx4; have HH4 := Hd.mk hh4; clear hx4 hh4 hb4 c8 h91 HC9
  obtain ⟨F, hF⟩ : ∃ F, F = foldS (padded m) ((padded m).size / 64) := ⟨_, rfl⟩
  have hFo : F.ok := by rw [hF]; exact foldS_ok _ _
  have hfr := hashRange HH4.out
  rw [← hF] at hfr
  obtain ⟨cs, hcs⟩ : ∃ cs, cs = wds (stL F) := ⟨_, rfl⟩
  have hix : ∀ (m : Nat), m < 8 → ∀ w', (Instr.index 136 (.agg cs) (.int .i64 (m : Int))).run Tryz.prog w' = .ok (.int .u32 (((stL F).getD m 0 : Nat) : Int)) w' := fun m hm w' => by
    rw [hcs]
    exact run_idxAgg w' _ _ 8 _ _ _ _ Tryz.underlying136 Tryz.isAgg112 Tryz.sizeOf112 (by omega) (by omega) (by rw [Int.toNat_natCast]; exact stL_get F m hm)
  have HFR := Hd.mk hfr; have HIX := Hd.mk hix; have HFO := Hd.mk hFo; have HF := Hd.mk hF; have HCS := Hd.mk hcs
  clear hfr hix hFo hF hcs
  have hs8 := HX4.out.size
  go_wp2_with (refine ldMid 136 w.heap.size 0 ?_ (u32s (stL F)) _ ?_ Tryz.underlying136 ?_ ?_ ?_; rfl; exact HFR.out; rfl; exact (zero_of_info info_8w).2; rw [show (u32s (stL F)).toArray = cs from HCS.out.symm])
  obtain ⟨wq, rfl⟩ : ∃ x, x = w4 := ⟨_, rfl⟩
  go_loopw [5, 33] (fun v i wr2 => ∃ (j n : Nat), i = .int .i64 (j : Int) ∧ n = 4 * j ∧ j ≤ 8 ∧ OwnM wr2 w.heap.size 5 v n (u8s (be4s ((stL F).take j))) ∧ Ext w wr2) (fun _ i _ => 100 - (intOf i).toNat)
  case atStart => exact ⟨0, 0, rfl, rfl, by omega, OwnM.of (by simpa [u8s, be4s] using own_nil _ _ _ _), HX4.out⟩
  case round =>
    clear hs8
    obtain ⟨j, n, rfl, hn, hj, hown, hext2⟩ := hrel
    have HN := Hd.mk hn
    by_cases hlt2 : j < 8
    · have hi := HIX.out j hlt2
      have hcl : ((stL F).getD j 0) < 4294967296 := stL_lt HFO.out j
      generalize hx : (stL F).getD j 0 = x at *
      have HXV := Hd.mk hx; clear hx
      have hb0 := hext2.size
      have hnb : n + 4 ≤ 100000000 := by omega
      obtain ⟨A, cap, rfl⟩ := hown.form
      clear hn
      go_wp2_with (at_builtin; go_must (refine appM w.heap.size rfl _ _ 45 5 (.int .u8 0) 1 rfl Tryz.underlying45 info_b8 rfl (m := 4) hown (ys := be4W x) rfl rfl rfl (be4W_one x) hb0 hnb (by decide) ?_); intro v1 w1 hown1 hg1)
      go_roundw
      case rel =>
        refine ⟨j + 1, n + 4, vint (by simp), by have := HN.out; omega, by omega, ?_, hext2.grown hg1 hown.base⟩
        rw [be4W_ys _ hcl, u8s_app, be4s_step (by simpa [stL] using hlt2) HXV.out] at hown1
        exact hown1
      case measure => simp only [intOf]; omega
    · obtain rfl : j = 8 := by omega
      have hcv := ownM_str hown Tryz.underlying45 Tryz.underlying5 Tryz.underlying9
      clear hn
      go_wp2
      go_ret
      refine ⟨congrArg Ending.returned (vstr ?_), hext2⟩
      rw [sha, ← HF.out]
      rfl

set_option maxRecDepth 100000 in
set_option maxHeartbeats 1000000 in
theorem shaP_any (m : ByteArray) (hm : m.size ≤ 50000000) (w : World) :
    Calls Tryz.prog 46 #[.string m] w fun e w' => e = .returned (.string (sha m)) ∧ Ext w w' := by
  go_enter Tryz.func46, Tryz.ntmps46
  go_wp2_with fail
  refine (newP_any _).mono ?_; rintro e w1 ⟨rfl, hc1, hx1⟩
  have h0 : HashOf w1 w.heap.size ⟨#[]⟩ := hc1
  go_wp2_with fail
  refine (writeP_any ⟨#[]⟩ m (by decide) (by omega) w.heap.size _ h0).mono ?_; rintro e w2 ⟨rfl, hc2, hb2⟩
  rw [show (⟨#[]⟩ : ByteArray) ++ m = m from ByteArray.empty_append] at hc2
  have hx2 := But.ext hx1 hb2 (Nat.le_refl _)
  clear hc1 h0 hb2 hx1
  go_wp2_with fail
  refine (hashSum_any m hm w.heap.size _ hc2).mono ?_; rintro e w3 ⟨rfl, hx3⟩
  go_wp2
  go_ret
  exact ⟨rfl, hx2.trans hx3⟩
end Go.Proofs.YtfofapggmoibkaaGreatDoor
