/- The reference's SHA-256, walked: one block. The reference's SHA-256, walked: the length, the padding. The reference's SHA-256, walked: Sum. -/
import Derived.Test.YtfofapggmoibkaaGreatDoorShaX
import Derived.Test.YtfofapggmoibkaaGreatDoorProg
import Derived.Test.YtfofapggmoibkaaGreatDoorFoundB
set_option linter.unusedVariables false
set_option linter.unusedSimpArgs false
namespace Go.Proofs.YtfofapggmoibkaaGreatDoor
open Go Go.RowKit

def RowU (w : World) (g : Nat) (l : List Nat) : Prop := w.heap[g]? = some (.cells (u32s l).toArray 112 (0, 0))
theorem RowU.ext {w w' : World} {g : Nat} {l : List Nat} (h : RowU w g l) (hx : Ext w w') : RowU w' g l := (hx.block g (Array.getElem?_eq_some_iff.1 h).1).trans h
theorem RowU.cell {w : World} {g j : Nat} {l : List Nat} (h : RowU w g l) (hj : j < l.length) : w.cell? ⟨g, j, none⟩ = some (.int .u32 ((l.getD j 0 : Nat) : Int)) :=
  cell_of h (by simp [u32s, List.getD_eq_getElem?_getD, List.getElem?_eq_getElem hj])

set_option maxRecDepth 100000 in
theorem constants_any (w : World) : Calls Tryz.prog 114 #[] w fun e w' => e = .returned (.slice (some ⟨w.heap.size, 0, none⟩) 64 64) ∧ RowU w' w.heap.size shaK ∧ Ext w w' := by
  go_enter Tryz.func114, Tryz.ntmps114
  go_wp2
  go_ret
  exact ⟨rfl, heap_alloc_new _ _, (Ext.refl w).alloc _⟩

set_option maxRecDepth 100000 in
set_option maxHeartbeats 4000000 in
theorem compress_any (s : St) (hs : s.ok) (b : ByteArray) (hb : b.size = 64) (g : Nat) (w : World) (hr : RowU w g (stL s)) :
    Calls Tryz.prog 83 #[.slice (some ⟨g, 0, none⟩) 8 8, .string b] w fun e w' => ∃ g', e = .returned (.slice (some ⟨g', 0, none⟩) 8 8) ∧ w.heap.size ≤ g' ∧ RowU w' g' (stL (compressS s b)) ∧ Ext w w' := by
  have HB := Hd.mk hb; clear hb
  have HR := Hd.mk hr; clear hr
  have HS := Hd.mk hs; clear hs
  go_enter Tryz.func83, Tryz.ntmps83
  go_wp2_with fail
  refine (schedule_any b HB.out _).mono ?_; rintro e w1 ⟨v, rfl, hown, hx1⟩
  go_wp2_with fail
  refine (constants_any _).mono ?_; rintro e w2 ⟨rfl, hk, hx2⟩
  go_wp2_with fail
  obtain ⟨gw, cap, rfl, _⟩ := hown.form (by omega)
  have hr2 : RowU w2 g (stL s) := HR.out.ext (hx1.trans hx2)
  have HX := Hd.mk (hx1.trans hx2)
  have hcw : ∀ j, j < 64 → w2.cell? ⟨gw, j, none⟩ = some (.int .u32 (((sched b 64).getD j 0 : Nat) : Int)) := fun j hj =>
    hx2.cell (own_cell hown (by simp [u32s, List.getD_eq_getElem?_getD, List.getElem?_eq_getElem (show j < (sched b 64).length by rw [sched_len]; exact hj)]))
  have hck : ∀ j, j < 64 → w2.cell? ⟨w1.heap.size, j, none⟩ = some (.int .u32 ((shaK.getD j 0 : Nat) : Int)) := fun j hj => hk.cell (by rw [show shaK.length = 64 by decide]; exact hj)
  have HCW := Hd.mk hcw; clear hcw
  have HCK := Hd.mk hck; clear hck hown hk
  have d0 : w2.cell? ⟨g, 0, none⟩ = some (.int .u32 (s.a : Int)) := hr2.cell (j := 0) (by simp [stL])
  have d1 : w2.cell? ⟨g, 1, none⟩ = some (.int .u32 (s.b : Int)) := hr2.cell (j := 1) (by simp [stL])
  have d2 : w2.cell? ⟨g, 2, none⟩ = some (.int .u32 (s.c : Int)) := hr2.cell (j := 2) (by simp [stL])
  have d3 : w2.cell? ⟨g, 3, none⟩ = some (.int .u32 (s.d : Int)) := hr2.cell (j := 3) (by simp [stL])
  have d4 : w2.cell? ⟨g, 4, none⟩ = some (.int .u32 (s.e : Int)) := hr2.cell (j := 4) (by simp [stL])
  have d5 : w2.cell? ⟨g, 5, none⟩ = some (.int .u32 (s.f : Int)) := hr2.cell (j := 5) (by simp [stL])
  have d6 : w2.cell? ⟨g, 6, none⟩ = some (.int .u32 (s.g : Int)) := hr2.cell (j := 6) (by simp [stL])
  have d7 : w2.cell? ⟨g, 7, none⟩ = some (.int .u32 (s.h : Int)) := hr2.cell (j := 7) (by simp [stL])
  clear hr2 hx1 hx2
  have DD : w2.cell? ⟨g, 0, none⟩ = some (.int .u32 (s.a : Int)) ∧ w2.cell? ⟨g, 1, none⟩ = some (.int .u32 (s.b : Int)) ∧ w2.cell? ⟨g, 2, none⟩ = some (.int .u32 (s.c : Int)) ∧ w2.cell? ⟨g, 3, none⟩ = some (.int .u32 (s.d : Int)) ∧ w2.cell? ⟨g, 4, none⟩ = some (.int .u32 (s.e : Int)) ∧ w2.cell? ⟨g, 5, none⟩ = some (.int .u32 (s.f : Int)) ∧ w2.cell? ⟨g, 6, none⟩ = some (.int .u32 (s.g : Int)) ∧ w2.cell? ⟨g, 7, none⟩ = some (.int .u32 (s.h : Int)) := ⟨d0, d1, d2, d3, d4, d5, d6, d7⟩
  have HD := Hd.mk DD; clear DD d0 d1 d2 d3 d4 d5 d6 d7
  refine wp_region_pi (fun w' => w'.cell? ⟨g, 0, none⟩ = some (.int .u32 (s.a : Int)) ∧ w'.cell? ⟨g, 1, none⟩ = some (.int .u32 (s.b : Int)) ∧ w'.cell? ⟨g, 2, none⟩ = some (.int .u32 (s.c : Int)) ∧ w'.cell? ⟨g, 3, none⟩ = some (.int .u32 (s.d : Int)) ∧ w'.cell? ⟨g, 4, none⟩ = some (.int .u32 (s.e : Int)) ∧ w'.cell? ⟨g, 5, none⟩ = some (.int .u32 (s.f : Int)) ∧ w'.cell? ⟨g, 6, none⟩ = some (.int .u32 (s.g : Int)) ∧ w'.cell? ⟨g, 7, none⟩ = some (.int .u32 (s.h : Int))) [(true, 0), (true, 1), (true, 2), (true, 3), (true, 4), (true, 5), (true, 6), (true, 7), (true, 8), (true, 9), (true, 10), (true, 11), (true, 12), (true, 13), (true, 14), (true, 15), (true, 16), (true, 17), (true, 18), (true, 19), (true, 20), (true, 21), (true, 22), (true, 23), (true, 24), (true, 25), (true, 26), (true, 27), (true, 28), (true, 29), (true, 30), (true, 31)] (by kernel_rfl) (by kernel_rfl) (by intro c a d v w h; cases d <;> exact h) ?_
  iterate 32 (refine pi_still rfl HD.out rfl (fun w' hS => by obtain ⟨s0, s1, s2, s3, s4, s5, s6, s7⟩ := hS; go_simp; rfl) ?_; intro K hK; go_simp; refine hK _ _ ?_; clear hK K)
  refine pi_nil ?_
  go_wp2
  go_loopw [7, 8, 9, 10, 11, 12, 13, 14, 15] (fun a b' c d e f g' h i wr => ∃ (n : Nat) (t : St), t = roundsS s (sched b 64) n ∧ a = .int .u32 (t.a : Int) ∧ b' = .int .u32 (t.b : Int) ∧ c = .int .u32 (t.c : Int) ∧ d = .int .u32 (t.d : Int) ∧ e = .int .u32 (t.e : Int) ∧ f = .int .u32 (t.f : Int) ∧ g' = .int .u32 (t.g : Int) ∧ h = .int .u32 (t.h : Int) ∧ i = .int .i64 (n : Int) ∧ n ≤ 64 ∧ Ext w2 wr) (fun _ _ _ _ _ _ _ _ i _ => 100 - (intOf i).toNat)
  case atStart => exact ⟨0, s, rfl, rfl, rfl, rfl, rfl, rfl, rfl, rfl, rfl, rfl, by omega, (Ext.refl w2).drew⟩
  case round =>
    obtain ⟨n, t, ht, rfl, rfl, rfl, rfl, rfl, rfl, rfl, rfl, rfl, hn, hext⟩ := hrel
    have HT := Hd.mk ht; clear ht
    by_cases hlt : n < 64
    · have TB : Hd t.ok := ⟨by rw [HT.out]; exact roundsS_ok HS.out _ _⟩
      have ck := hext.cell (HCK.out n hlt)
      have cw := hext.cell (HCW.out n hlt)
      generalize hkv : shaK.getD n 0 = kv at ck
      generalize hwv : (sched b 64).getD n 0 = wv at cw
      have HK := Hd.mk hkv; clear hkv
      have HW := Hd.mk hwv; clear hwv
      go_wp2
      have i0 : (0 : Int) ≤ (n : Int) := by omega
      have hadd := add_val
      have hM : (if IntKind.u32.signed = true then (-1 : Int) else IntKind.u32.max) = 4294967295 := rfl
      have hE := bsig1_val t.e TB.out.e
      have hC := choose_val t.e t.f t.g TB.out.e TB.out.f TB.out.g
      refine wp_region_pi (fun w' => w'.cell? ⟨w1.heap.size, n, none⟩ = some (.int .u32 (kv : Int)) ∧ w'.cell? ⟨gw, n, none⟩ = some (.int .u32 (wv : Int))) [(true, 0), (true, 1), (true, 3), (true, 6), (true, 10), (true, 11), (true, 12), (true, 13), (true, 14), (true, 15), (true, 16), (true, 17), (true, 19), (true, 20), (true, 21), (true, 22), (true, 24), (true, 25), (true, 26), (true, 27), (false, 2), (false, 4), (true, 5), (false, 7), (true, 8), (true, 9), (true, 18), (true, 23), (true, 28), (true, 29)] (by kernel_rfl) (by kernel_rfl) (by intro c a d v w h; cases d <;> exact h) ?_
      iterate 20 (refine pi_still rfl ⟨ck, cw⟩ rfl (fun w' hS => by obtain ⟨s1, s2⟩ := hS; go_simp; rfl) ?_; intro K hK; go_simp; refine hK _ _ ?_; clear hK K)
      refine pi_act rfl rfl ?_; intro K hK; go_simp; refine (rotr_any t.e 6 _ TB.out.e (by omega)).mono ?_; rintro e _ ⟨rfl, m6, rfl⟩; refine hK _ _ ⟨ck, cw⟩ ?_; clear hK K
      refine pi_act rfl rfl ?_; intro K hK; go_simp; refine (rotr_any t.e 11 _ TB.out.e (by omega)).mono ?_; rintro e _ ⟨rfl, m11, rfl⟩; refine hK _ _ ⟨ck, cw⟩ ?_; clear hK K
      iterate 1 (refine pi_still rfl ⟨ck, cw⟩ rfl (fun w' hS => by obtain ⟨s1, s2⟩ := hS; go_simp; rfl) ?_; intro K hK; go_simp; refine hK _ _ ?_; clear hK K)
      refine pi_act rfl rfl ?_; intro K hK; go_simp; refine (rotr_any t.e 25 _ TB.out.e (by omega)).mono ?_; rintro e _ ⟨rfl, m25, rfl⟩; refine hK _ _ ⟨ck, cw⟩ ?_; clear hK K
      iterate 6 (refine pi_still rfl ⟨ck, cw⟩ rfl (fun w' hS => by obtain ⟨s1, s2⟩ := hS; go_simp; rfl) ?_; intro K hK; go_simp; refine hK _ _ ?_; clear hK K)
      refine pi_nil ?_
      clear hE hC hM
      have hadd2 := add_mod
      have hE := bsig0_val t.a TB.out.a
      have hC := major_val t.a t.b t.c TB.out.a TB.out.b TB.out.c
      go_wp2_with fail
      refine (rotr_any t.a 2 _ TB.out.a (by omega)).mono ?_; rintro e _ ⟨rfl, m2, rfl⟩
      go_wp2_with fail
      refine (rotr_any t.a 13 _ TB.out.a (by omega)).mono ?_; rintro e _ ⟨rfl, m13, rfl⟩
      go_wp2_with fail
      refine (rotr_any t.a 22 _ TB.out.a (by omega)).mono ?_; rintro e _ ⟨rfl, m22, rfl⟩
      go_wp2
      clear hadd hadd2 hE hC
      go_roundw
      case rel => exact ⟨n + 1, stepS t kv wv, by rw [roundsS, ← HT.out, HK.out, HW.out], rfl, rfl, rfl, rfl, rfl, rfl, rfl, rfl, vint (by simp), by omega, hext.drewN _⟩
      case measure => simp only [intOf]; omega
    · obtain rfl : n = 64 := by omega
      have hadd := add_val
      obtain ⟨d0, d1, d2, d3, d4, d5, d6, d7⟩ := HD.out
      have HDR : Hd (wr.cell? ⟨g, 0, none⟩ = some (.int .u32 (s.a : Int)) ∧ wr.cell? ⟨g, 1, none⟩ = some (.int .u32 (s.b : Int)) ∧ wr.cell? ⟨g, 2, none⟩ = some (.int .u32 (s.c : Int)) ∧ wr.cell? ⟨g, 3, none⟩ = some (.int .u32 (s.d : Int)) ∧ wr.cell? ⟨g, 4, none⟩ = some (.int .u32 (s.e : Int)) ∧ wr.cell? ⟨g, 5, none⟩ = some (.int .u32 (s.f : Int)) ∧ wr.cell? ⟨g, 6, none⟩ = some (.int .u32 (s.g : Int)) ∧ wr.cell? ⟨g, 7, none⟩ = some (.int .u32 (s.h : Int))) := ⟨hext.cell d0, hext.cell d1, hext.cell d2, hext.cell d3, hext.cell d4, hext.cell d5, hext.cell d6, hext.cell d7⟩
      clear d0 d1 d2 d3 d4 d5 d6 d7
      go_wp2
      refine wp_region_pi (fun w' => w'.cell? ⟨g, 0, none⟩ = some (.int .u32 (s.a : Int)) ∧ w'.cell? ⟨g, 1, none⟩ = some (.int .u32 (s.b : Int)) ∧ w'.cell? ⟨g, 2, none⟩ = some (.int .u32 (s.c : Int)) ∧ w'.cell? ⟨g, 3, none⟩ = some (.int .u32 (s.d : Int)) ∧ w'.cell? ⟨g, 4, none⟩ = some (.int .u32 (s.e : Int)) ∧ w'.cell? ⟨g, 5, none⟩ = some (.int .u32 (s.f : Int)) ∧ w'.cell? ⟨g, 6, none⟩ = some (.int .u32 (s.g : Int)) ∧ w'.cell? ⟨g, 7, none⟩ = some (.int .u32 (s.h : Int))) [(true, 0), (true, 1), (true, 2), (true, 3), (true, 4), (true, 5), (true, 6), (true, 7), (true, 8), (true, 9), (true, 10), (true, 11), (true, 12), (true, 13), (true, 14), (true, 15), (true, 16), (true, 17), (true, 18), (true, 19), (true, 20), (true, 21), (true, 22), (true, 23), (true, 24), (true, 25), (true, 26), (true, 27), (true, 28), (true, 29), (true, 30), (true, 31), (true, 32), (true, 33), (true, 34), (true, 35), (true, 36), (true, 37), (true, 38), (true, 39), (false, 40), (true, 41)] (by kernel_rfl) (by kernel_rfl) (by intro c a d v w h; cases d <;> exact h) ?_
      iterate 40 (refine pi_still rfl HDR.out rfl (fun w' hS => by obtain ⟨s0, s1, s2, s3, s4, s5, s6, s7⟩ := hS; go_simp; rfl) ?_; intro K hK; go_simp; refine hK _ _ ?_; clear hK K)
      obtain ⟨d0, d1, d2, d3, d4, d5, d6, d7⟩ := HDR.out
      have HDA : ∀ o, Hd ((wr.alloc o).cell? ⟨g, 0, none⟩ = some (.int .u32 (s.a : Int)) ∧ (wr.alloc o).cell? ⟨g, 1, none⟩ = some (.int .u32 (s.b : Int)) ∧ (wr.alloc o).cell? ⟨g, 2, none⟩ = some (.int .u32 (s.c : Int)) ∧ (wr.alloc o).cell? ⟨g, 3, none⟩ = some (.int .u32 (s.d : Int)) ∧ (wr.alloc o).cell? ⟨g, 4, none⟩ = some (.int .u32 (s.e : Int)) ∧ (wr.alloc o).cell? ⟨g, 5, none⟩ = some (.int .u32 (s.f : Int)) ∧ (wr.alloc o).cell? ⟨g, 6, none⟩ = some (.int .u32 (s.g : Int)) ∧ (wr.alloc o).cell? ⟨g, 7, none⟩ = some (.int .u32 (s.h : Int))) := fun o => ⟨((Ext.refl wr).alloc o).cell d0, ((Ext.refl wr).alloc o).cell d1, ((Ext.refl wr).alloc o).cell d2, ((Ext.refl wr).alloc o).cell d3, ((Ext.refl wr).alloc o).cell d4, ((Ext.refl wr).alloc o).cell d5, ((Ext.refl wr).alloc o).cell d6, ((Ext.refl wr).alloc o).cell d7⟩
      clear d0 d1 d2 d3 d4 d5 d6 d7
      refine pi_act rfl rfl ?_; intro K hK; go_simp; refine hK _ _ (HDA _).out ?_; clear hK K
      refine pi_still rfl (HDA _).out rfl (fun w' hS => by go_simp; rfl) ?_; intro K hK; go_simp; refine hK _ _ ?_; clear hK K
      refine pi_nil ?_
      go_wp2
      go_ret
      refine ⟨_, rfl, ?_, heap_alloc_new wr _ |>.trans ?_, (HX.out.trans hext).alloc _ |>.drew⟩
      · exact (HX.out.trans hext).size
      · rw [compressS, ← HT.out]; rfl
end Go.Proofs.YtfofapggmoibkaaGreatDoor
namespace Go.Proofs.YtfofapggmoibkaaGreatDoor
open Go Go.RowKit

theorem info_b8 : (Tryz.prog.info? 5).map (fun i => (i.zero, i.size, i.bytes)) = some (some (Go.Value.int .u8 0), 1, 1) := by kernel_rfl

theorem be8_step (n j : Nat) (z : Int) (hz : z + j = 7) (h0 : 0 ≤ z) : u8s ((be8 n).take j) ++ [.int .u8 ((n : Int) / 2 ^ (8 * z).toNat % 256)] = u8s ((be8 n).take (j + 1)) := by
  obtain ⟨m, rfl⟩ := Int.eq_ofNat_of_zero_le h0
  have hk : (8 * (m : Int)).toNat = 8 * m := by omega
  rw [hk, show ((n : Int) / 2 ^ (8 * m) % 256) = ((n / 2 ^ (8 * m) % 256 : Nat) : Int) by simp]
  have hm : m ≤ 7 := by omega
  have hj : j = 7 - m := by omega
  subst hj
  rw [u8s_snoc _ (UInt8.ofNat (n / 2 ^ (8 * m))) _ (by simp)]
  congr 1
  have : m = 0 ∨ m = 1 ∨ m = 2 ∨ m = 3 ∨ m = 4 ∨ m = 5 ∨ m = 6 ∨ m = 7 := by omega
  rcases this with rfl | rfl | rfl | rfl | rfl | rfl | rfl | rfl <;> simp [be8]

set_option maxRecDepth 100000 in
set_option maxHeartbeats 1000000 in
theorem length_any (n : Nat) (hn : n < 9223372036854775808) (w : World) :
    Calls Tryz.prog 112 #[.int .i64 n] w fun e w' => e = .returned (.string ⟨(be8 n).toArray⟩) ∧ Ext w w' := by
  go_enter Tryz.func112, Tryz.ntmps112
  go_wp2
  go_loopw [3, 4] (fun v i wr => ∃ (j : Nat) (z : Int), i = .int .i64 z ∧ z + j = 7 ∧ j ≤ 8 ∧ wr.ownsRow w.heap.size 5 1 v j (u8s ((be8 n).take j)) ∧ Ext w wr) (fun _ i _ => (intOf i + 1).toNat)
  case atStart => exact ⟨0, 7, rfl, rfl, by omega, by simpa [u8s] using own_empty w _ _ (Nat.le_refl _), (Ext.refl w).alloc _⟩
  case round =>
    obtain ⟨j, z, rfl, hz, hj, hown, hext⟩ := hrel
    have hb0 := hext.size
    by_cases hlt : 0 ≤ z
    · have hj2 : j ≤ 1000 := by omega
      go_wp2_with (at_builtin; go_must (refine app1 w.heap.size rfl _ _ 45 5 (.int .u8 0) 1 rfl Tryz.underlying45 info_b8 rfl hown rfl rfl rfl hb0 (by omega) (by decide) ?_); intro v1 w1 hown1 hg1 hat1)
      go_roundw
      case rel => exact ⟨j + 1, z - 1, rfl, by omega, by omega, by rw [← be8_step n j z hz hlt]; exact hown1, hext.grown hg1 (own_base hown)⟩
      case measure => simp only [intOf]; omega
    · obtain rfl : j = 8 := by omega
      have hcv := own_str hown Tryz.underlying45 Tryz.underlying5 Tryz.underlying9
      go_wp2
      go_ret
      exact ⟨rfl, hext⟩

def lenV : Value → Nat
  | .slice _ n _ => n
  | _ => 0
theorem OwnM.form {w : World} {base : Nat} {e : TypeId} {v : Value} {n : Nat} {xs : List Value} (h : OwnM w base e v n xs) : ∃ A cap, v = .slice A n cap := by
  rcases h.2 with ⟨rfl, rfl⟩ | ⟨g, cap, cur, fz, rfl, _⟩
  · exact ⟨_, _, rfl⟩
  · exact ⟨_, _, rfl⟩
theorem OwnM.ext {w w' : World} {base : Nat} {e : TypeId} {v : Value} {n : Nat} {xs : List Value} (h : OwnM w base e v n xs) (hx : Ext w w') : OwnM w' base e v n xs := by
  refine ⟨h.1, ?_⟩
  rcases h.2 with hn | ⟨g, cap, cur, fz, rfl, hb, hgg, rest⟩
  · exact .inl hn
  · exact .inr ⟨g, cap, cur, fz, rfl, hb, (hx.block g (Array.getElem?_eq_some_iff.1 hgg).1).trans hgg, rest⟩
/-- what lies before the length -/
def padL (s : ByteArray) (k : Nat) : List UInt8 := s.data.toList ++ 128 :: List.replicate k 0
theorem padL_len (s : ByteArray) (k : Nat) : (padL s k).length = s.size + 1 + k := by simp [padL, data_len]; omega
theorem pad_eq (s : ByteArray) : (⟨(padL s (zerosOf s.size)).toArray⟩ : ByteArray) ++ ⟨(be8 (8 * s.size)).toArray⟩ = padded s := by
  apply ByteArray.ext
  apply Array.ext'
  simp [padded, padL]
theorem u8s_app (a b : List UInt8) : u8s a ++ u8s b = u8s (a ++ b) := by simp [u8s]

set_option maxRecDepth 100000 in
set_option maxHeartbeats 2000000 in
theorem padded_any (s : ByteArray) (hs : s.size ≤ 10000000) (w : World) :
    Calls Tryz.prog 82 #[.string s] w fun e w' => e = .returned (.string (padded s)) ∧ Ext w w' := by
  have kb := fun W => Lib.run_convert_string_bytes (P := Tryz.prog) W 9 45 5 s (u := .string) Tryz.underlying9 Tryz.underlying45 Tryz.underlying5
  have hown0 := own_bytes w w.heap.size (Nat.le_refl _) 5 s (by simp only [maxLen]; omega)
  have hext0 := ext_bytes (Ext.refl w) 5 s
  have hsz0 := hext0.size
  go_enter Tryz.func82, Tryz.ntmps82
  go_wp2_with (at_builtin; go_must (refine appM w.heap.size rfl _ _ 45 5 (.int .u8 0) 1 rfl Tryz.underlying45 info_b8 rfl (m := 1) hown0 (ys := [.int .u8 128]) rfl rfl rfl (by decide) hsz0 (by omega) (by decide) ?_); intro v1 w1 hown1 hg1)
  have hext1 := hext0.grown hg1 hown0.base
  have hown2 : OwnM w1 w.heap.size 5 v1 (s.size + 1 + 0) (u8s (padL s 0)) := by
    have : u8s s.data.toList ++ [.int .u8 128] = u8s (padL s 0) := by simp [padL, u8s]
    rw [← this]; exact hown1
  clear hown1
  go_loopw [3] (fun v wr => ∃ (j m : Nat), j ≤ zerosOf s.size ∧ m = s.size + 1 + j ∧ OwnM wr w.heap.size 5 v m (u8s (padL s j)) ∧ Ext w wr) (fun v _ => 20000000 - lenV v)
  case atStart => exact ⟨0, _, Nat.zero_le _, rfl, hown2, hext1⟩
  case round =>
    obtain ⟨j, m, hj, hm, hown, hext⟩ := hrel
    have hzz : zerosOf s.size < 64 := Nat.mod_lt _ (by decide)
    have hb0 := hext.size
    obtain ⟨A, cap, rfl⟩ := hown.form
    have HM := Hd.mk hm
    have HZ := Hd.mk hzz
    by_cases hlt : j < zerosOf s.size
    · have hne2 : ¬ m % 64 = 56 := by unfold zerosOf at hlt; omega
      have hne : ((m : Int) % 64 != 56) = true := by rw [bne_iff_ne]; omega
      clear hm hzz hne2
      have hmb : m + 1 ≤ 100000000 := by have := HM.out; have := HZ.out; omega
      go_wp2_with (at_builtin; go_must (refine appM w.heap.size rfl _ _ 45 5 (.int .u8 0) 1 rfl Tryz.underlying45 info_b8 rfl (m := 1) hown (ys := [.int .u8 0]) rfl rfl rfl (by decide) hb0 hmb (by decide) ?_); intro v1 w1 hown1 hg1)
      go_roundw
      case rel =>
        refine ⟨j + 1, m + 1, by omega, by have := HM.out; omega, ?_, hext.grown hg1 hown.base⟩
        have : u8s (padL s j) ++ [.int .u8 0] = u8s (padL s (j + 1)) := by simp [padL, u8s, List.replicate_succ']
        rw [← this]; exact hown1
      case measure =>
        obtain ⟨A1, cap1, rfl⟩ := hown1.form
        have := HM.out
        have := HZ.out
        simp only [lenV]; omega
    · have hz : j = zerosOf s.size := by omega
      have hne2 : m % 64 = 56 := by unfold zerosOf at hz; omega
      have hne : ((m : Int) % 64 != 56) = false := by rw [bne_eq_false_iff_eq]; omega
      clear hm hzz hne2 hlt hj
      subst hz
      have hcv := ownM_str hown Tryz.underlying45 Tryz.underlying5 Tryz.underlying9
      have hcv2 : ∀ w', Ext wr w' → (convert 45 9 (.slice A m cap)).run Tryz.prog w' = .ok (.string ⟨(padL s (zerosOf s.size)).toArray⟩) w' := fun w' hx => ownM_str (hown.ext hx) Tryz.underlying45 Tryz.underlying5 Tryz.underlying9
      have hb8 : 8 * s.size < 9223372036854775808 := by omega
      go_wp2
      have hcl : ¬ 9223372036854775807 < (padL s (zerosOf s.size)).length + (be8 (8 * s.size)).length := by rw [padL_len]; have := HZ.out; simp only [be8, List.length_cons, List.length_nil]; omega
      have hw8 : IntKind.i64.wrap (8 * (s.size : Int)) = ((8 * s.size : Nat) : Int) := (IntWalk.i64_in _ (by omega)).trans (by simp)
      refine wp_region_pi (fun w' => (convert 45 9 (.slice A m cap)).run Tryz.prog w' = .ok (.string ⟨(padL s (zerosOf s.size)).toArray⟩) w') [(true, 0), (true, 1), (true, 2), (true, 3), (true, 4), (false, 5), (true, 6), (true, 7)] (by kernel_rfl) (by kernel_rfl) (by intro c a d v w h; cases d <;> exact h) ?_
      iterate 5 (refine pi_still rfl (hcv2 _ (Ext.refl wr).drew) rfl (fun w' hS => by go_simp; rfl) ?_; intro K hK; go_simp; refine hK _ _ ?_; clear hK K)
      refine pi_act rfl rfl ?_; intro K hK; go_simp; refine (length_any (8 * s.size) hb8 _).mono ?_; rintro e w2 ⟨rfl, hx2⟩; replace hx2 : Ext wr w2 := ((Ext.refl wr).drew).trans hx2; refine hK _ _ (hcv2 _ hx2) ?_; clear hK K
      iterate 2 (refine pi_still rfl (hcv2 _ hx2) rfl (fun w' hS => by go_simp; rfl) ?_; intro K hK; go_simp; refine hK _ _ ?_; clear hK K)
      refine pi_nil ?_
      go_wp2
      go_ret
      exact ⟨congrArg Ending.returned (vstr (pad_eq s)), hext.trans hx2⟩
end Go.Proofs.YtfofapggmoibkaaGreatDoor
namespace Go.Proofs.YtfofapggmoibkaaGreatDoor
open Go Go.RowKit

def be4s (l : List Nat) : List UInt8 := (l.map be4).flatten
theorem stL_lt {s : St} (h : s.ok) (j : Nat) : (stL s).getD j 0 < 4294967296 := by
  obtain ⟨h0, h1, h2, h3, h4, h5, h6, h7⟩ := h
  rcases j with _ | _ | _ | _ | _ | _ | _ | _ | j <;> simp [stL] <;> omega
abbrev be4V (x : Nat) : List Value := [Value.int .u8 (IntKind.u8.wrap ((x : Int) / 16777216)), .int .u8 (IntKind.u8.wrap ((x : Int) / 65536)), .int .u8 (IntKind.u8.wrap ((x : Int) / 256)), .int .u8 (IntKind.u8.wrap (x : Int))]
theorem be4_ys (x : Nat) : be4V x = u8s (be4 x) := by
  simp [be4V, u8s, be4, IntKind.wrap_u8]
theorem be4V_one (x : Nat) : ∀ u ∈ be4V x, u.oneCell' = true := by simp [be4V, Value.oneCell']
theorem be4s_step {l : List Nat} {j x : Nat} (hj : j < l.length) (hx : l.getD j 0 = x) : be4s (l.take j) ++ be4 x = be4s (l.take (j + 1)) := by
  subst hx
  rw [List.getD_eq_getElem?_getD, List.getElem?_eq_getElem hj, List.take_add_one, List.getElem?_eq_getElem hj]
  simp only [be4s, List.map_append, List.flatten_append, Option.toList_some, List.map_cons, List.map_nil, List.flatten_cons, List.flatten_nil, List.append_nil, Option.getD_some]
set_option maxRecDepth 100000 in
set_option maxHeartbeats 4000000 in
theorem sumR_any (s : ByteArray) (hs : s.size ≤ 10000000) (w : World) :
    Calls Tryz.prog 47 #[.string s] w fun e w' => e = .returned (.string (sha s)) ∧ Ext w w' := by
  have hps := padded_size s
  have hpm := padded_mod s
  have hzz : zerosOf s.size < 64 := Nat.mod_lt _ (by decide)
  have HP : Hd ((padded s).size % 64 = 0 ∧ (padded s).size ≤ 10000100) := ⟨hpm, by omega⟩
  have HS := Hd.mk hs
  clear hps hpm hzz hs
  generalize hp : padded s = p at HP
  have HPP := Hd.mk hp; clear hp
  go_enter Tryz.func47, Tryz.ntmps47
  go_wp2_with (go_at_call 82; refine (padded_any s HS.out _).mono ?_; rintro e w1 ⟨rfl, hx1⟩)
  rw [HPP.out]
  have hr0 : RowU w1 w.heap.size (stL initS) := RowU.ext (heap_alloc_new w _) hx1
  have hext1 : Ext w w1 := ((Ext.refl w).alloc _).trans hx1
  go_loopw [3, 5] (fun v i wr => ∃ (g k m : Nat), v = .slice (some ⟨g, 0, none⟩) 8 8 ∧ i = .int .i64 (m : Int) ∧ m = 64 * k ∧ m ≤ p.size ∧ RowU wr g (stL (foldS p k)) ∧ Ext w wr) (fun _ i _ => p.size + 100 - (intOf i).toNat)
  case atStart => exact ⟨w.heap.size, 0, 0, rfl, rfl, rfl, by omega, hr0, hext1⟩
  case round =>
    obtain ⟨g, k, m, rfl, rfl, hk, hm, hrow, hext⟩ := hrel
    have HK := Hd.mk hk
    by_cases hlt : m < p.size
    · have hm64 : m + 64 ≤ p.size := by have := HP.out.1; omega
      have hbz : p.size ≤ 10000100 := HP.out.2
      clear hk
      go_wp2_with fail
      have hez : (p.extract m (m + 64)).size = 64 := by simp only [ByteArray.size_extract]; omega
      refine (compress_any (foldS p k) (foldS_ok _ _) _ hez g _ hrow).mono ?_; rintro e w2 ⟨g', rfl, hg', hrow2, hx2⟩
      go_wp2
      go_roundw
      case rel => exact ⟨g', k + 1, m + 64, rfl, vint (by simp), by have := HK.out; omega, hm64, by rw [HK.out] at hrow2; exact hrow2, hext.trans hx2⟩
      case measure => simp only [intOf]; omega
    · obtain rfl : m = p.size := by omega
      have hkk : k = p.size / 64 := by have := HP.out.1; omega
      have HR := Hd.mk hrow; clear hrow
      have HX := Hd.mk hext
      have hsz := hext.size
      clear hk
      obtain ⟨wq, rfl⟩ : ∃ x, x = wr := ⟨_, rfl⟩
      go_wp2
      go_loopw [6, 7] (fun v i wr2 => ∃ (j n : Nat), i = .int .i64 (j : Int) ∧ n = 4 * j ∧ j ≤ 8 ∧ OwnM wr2 wq.heap.size 5 v n (u8s (be4s ((stL (foldS p k)).take j))) ∧ Ext wq wr2) (fun _ i _ => 100 - (intOf i).toNat)
      case atStart => exact ⟨0, 0, rfl, rfl, by omega, OwnM.of (by simpa [u8s, be4s] using own_empty wq _ _ (Nat.le_refl _)), (Ext.refl wq).alloc _⟩
      case round =>
        obtain ⟨j, n, rfl, hn, hj, hown, hext2⟩ := hrel
        have HN := Hd.mk hn
        by_cases hlt2 : j < 8
        · have hc : wr.cell? ⟨g, j, none⟩ = some (.int .u32 (((stL (foldS p k)).getD j 0 : Nat) : Int)) := hext2.cell (HR.out.cell (by simpa [stL] using hlt2))
          have hcq : wq.cell? ⟨g, j, none⟩ = some (.int .u32 (((stL (foldS p k)).getD j 0 : Nat) : Int)) := HR.out.cell (by simpa [stL] using hlt2)
          have hcl : ((stL (foldS p k)).getD j 0) < 4294967296 := stL_lt (foldS_ok p k) j
          generalize hx : (stL (foldS p k)).getD j 0 = x at hc hcl hcq
          have HCQ := Hd.mk hcq; clear hcq
          have HXV := Hd.mk hx; clear hx
          have hb0 := hext2.size
          clear hn
          go_wp2
          refine wp_region_pi (fun w' => w'.cell? ⟨g, j, none⟩ = some (.int .u32 (x : Int))) [(true, 0), (true, 1), (true, 2), (true, 3), (true, 4), (true, 5), (true, 6), (true, 7), (true, 8), (true, 9), (true, 10), (true, 11), (true, 12), (true, 13), (true, 14), (true, 15), (true, 16), (true, 17), (true, 18), (true, 19), (true, 20), (true, 21), (true, 22), (true, 23), (false, 24), (false, 25), (true, 26)] (by kernel_rfl) (by kernel_rfl) (by intro c a d v w h; cases d <;> exact h) ?_
          iterate 24 (refine pi_still rfl hc rfl (fun w' hS => by go_simp; rfl) ?_; intro K hK; go_simp; refine hK _ _ ?_; clear hK K)
          refine pi_act rfl rfl ?_; intro K hK; go_simp; refine hK _ _ (((Ext.refl wr).alloc _).drew.cell hc) ?_; clear hK K
          refine pi_act rfl rfl ?_; intro K hK
          refine wpAppM wq.heap.size _ _ 45 5 (.int .u8 0) 1 rfl Tryz.underlying45 info_b8 rfl (m := 4) (hown.ext ((Ext.refl wr).alloc _).drew) (ys := be4V x) rfl (heap_alloc_new wr _) (be4V_one x) rfl rfl (by simp; omega) (by have := HN.out; omega) (by decide) ?_
          intro v1 w1 hown1 hg1
          go_simp
          have hx3 : Ext wq w1 := ((hext2.alloc _).drew).grown hg1 hown.base
          refine hK _ _ (hx3.cell HCQ.out) ?_; clear hK K
          refine pi_still rfl (hx3.cell HCQ.out) rfl (fun w' hS => by go_simp; rfl) ?_; intro K hK; go_simp; refine hK _ _ ?_; clear hK K
          refine pi_nil ?_
          go_wp2
          go_roundw
          case rel =>
            refine ⟨j + 1, n + 4, vint (by simp), by have := HN.out; omega, by omega, ?_, hx3⟩
            rw [be4_ys, u8s_app, be4s_step (by simpa [stL] using hlt2) HXV.out] at hown1
            exact hown1
          case measure => simp only [intOf]; omega
        · obtain rfl : j = 8 := by omega
          have hcv := ownM_str hown Tryz.underlying45 Tryz.underlying5 Tryz.underlying9
          clear hn
          go_wp2
          go_ret
          refine ⟨congrArg Ending.returned (vstr ?_), HX.out.trans hext2⟩
          rw [sha, HPP.out, ← hkk]
          rfl
end Go.Proofs.YtfofapggmoibkaaGreatDoor
