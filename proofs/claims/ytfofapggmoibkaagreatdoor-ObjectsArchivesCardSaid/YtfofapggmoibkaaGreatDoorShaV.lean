/- The program's SHA-256, walked: small functions. The program's SHA-256, walked: the constants. The program's SHA-256, walked: the schedule. The program's SHA-256, walked: numbers as bytes, a new state, one block. -/
import Derived.Test.YtfofapggmoibkaaGreatDoorProg
import Derived.Test.YtfofapggmoibkaaGreatDoorShaX
import Derived.Test.YtfofapggmoibkaaGreatDoorShaY
import Derived.Test.YtfofapggmoibkaaGreatDoorFoundB
set_option linter.unusedVariables false
set_option linter.unusedSimpArgs false
namespace Go.Proofs.YtfofapggmoibkaaGreatDoor
open Go Go.RowKit

theorem neg31 (n : Nat) (h0 : 0 < n) (h : n < 32) : bits BinOp.and IntKind.u64 (IntKind.u64.wrap (-(n : Int))) 31 = ((32 - n : Nat) : Int) := by
  have h0 : ∀ t : Fin 32, 0 < t.val → bits BinOp.and IntKind.u64 (IntKind.u64.wrap (-((t.val : Nat) : Int))) 31 = ((32 - t.val : Nat) : Int) := by decide +kernel
  exact h0 ⟨n, h⟩ ‹_›

set_option maxRecDepth 100000 in
set_option maxHeartbeats 400000 in
theorem rotl_any (x n : Nat) (w : World) (hx : x < 4294967296) (h0 : 0 < n) (hn : n < 32) :
    Calls Tryz.prog 136 #[.int .u32 x, .int .i64 (-(n : Int))] w fun e w' => e = .returned (.int .u32 (rotr x n)) ∧ w = w' := by
  have h31 := neg31 n h0 hn
  go_enter Tryz.func136, Tryz.ntmps136
  go_wp2
  go_ret
  refine ⟨congrArg Ending.returned (vint ?_), rfl⟩
  rw [show 32 - (32 - n) = n by omega, c_div, show ((x : Int) * 2 ^ (32 - n)) = ((x * 2 ^ (32 - n) : Nat) : Int) by simp, c_mod, or32 _ _ (show x * 2 ^ (32 - n) % W32 < 4294967296 from Nat.mod_lt _ (by decide)) (Nat.lt_of_le_of_lt (Nat.div_le_self _ _) hx), Nat.or_comm]
  rfl

def big3 (x a b c : Nat) : Nat := rotr x a ^^^ rotr x b ^^^ rotr x c
theorem big3_val (x a b c : Nat) (h : x < 4294967296) : bits BinOp.xor IntKind.u32 (bits BinOp.xor IntKind.u32 ((rotr x a : Nat) : Int) ((rotr x b : Nat) : Int)) ((rotr x c : Nat) : Int) = ((big3 x a b c : Nat) : Int) := by
  rw [xor32 _ _ (rotr_lt _ _ h) (rotr_lt _ _ h), xor32 _ _ (xor_lt (rotr_lt _ _ h) (rotr_lt _ _ h)) (rotr_lt _ _ h)]; rfl
def small3 (x a b c : Nat) : Nat := rotr x a ^^^ rotr x b ^^^ x / 2 ^ c
theorem small3_val (x a b c : Nat) (h : x < 4294967296) : bits BinOp.xor IntKind.u32 (bits BinOp.xor IntKind.u32 ((rotr x a : Nat) : Int) ((rotr x b : Nat) : Int)) ((x : Int) / 2 ^ c) = ((small3 x a b c : Nat) : Int) := by
  rw [c_div, xor32 _ _ (rotr_lt _ _ h) (rotr_lt _ _ h), xor32 _ _ (xor_lt (rotr_lt _ _ h) (rotr_lt _ _ h)) (Nat.lt_of_le_of_lt (Nat.div_le_self _ _) h)]; rfl

set_option maxRecDepth 100000 in
set_option maxHeartbeats 1000000 in
theorem bigfn_any (x a b c : Nat) (w : World) (hx : x < 4294967296) (a0 : 0 < a) (a1 : a < 32) (b0 : 0 < b) (b1 : b < 32) (c0 : 0 < c) (c1 : c < 32) :
    Calls Tryz.prog 135 #[.int .u32 x, .int .i64 a, .int .i64 b, .int .i64 c] w fun e w' => e = .returned (.int .u32 (big3 x a b c)) ∧ w = w' := by
  go_enter Tryz.func135, Tryz.ntmps135
  go_wp2_with fail
  refine (rotl_any x a _ hx a0 a1).mono ?_; rintro e _ ⟨rfl, rfl⟩
  go_wp2_with fail
  refine (rotl_any x b _ hx b0 b1).mono ?_; rintro e _ ⟨rfl, rfl⟩
  go_wp2_with fail
  refine (rotl_any x c _ hx c0 c1).mono ?_; rintro e _ ⟨rfl, rfl⟩
  go_wp2
  go_ret
  exact ⟨congrArg Ending.returned (vint (big3_val x a b c hx)), rfl⟩

set_option maxRecDepth 100000 in
set_option maxHeartbeats 1000000 in
theorem smallfn_any (x a b c : Nat) (w : World) (hx : x < 4294967296) (a0 : 0 < a) (a1 : a < 32) (b0 : 0 < b) (b1 : b < 32) (c0 : 0 < c) (c1 : c < 32) :
    Calls Tryz.prog 153 #[.int .u32 x, .int .i64 a, .int .i64 b, .int .i64 c] w fun e w' => e = .returned (.int .u32 (small3 x a b c)) ∧ Drawn w w' := by
  go_enter Tryz.func153, Tryz.ntmps153
  go_wp2
  have hneg : ∀ n : Nat, 0 < n → n < 32 → IntKind.i64.wrap (-(n : Int)) = -(n : Int) := fun n _ _ => IntWalk.i64_in _ (by omega)
  have hna := hneg a a0 a1
  have hnb := hneg b b0 b1
  clear hneg
  refine wp_region_pi (fun _ => True) [(true, 0), (true, 1), (true, 2), (true, 4), (true, 5), (true, 6), (true, 9), (true, 10), (true, 11), (false, 3), (false, 7), (true, 8), (true, 12), (true, 13)] (by kernel_rfl) (by kernel_rfl) (by intro c a d v w h; cases d <;> exact h) ?_
  iterate 9 (refine pi_still rfl trivial rfl (fun w' hS => by go_simp; rfl) ?_; intro K hK; go_simp; refine hK _ _ ?_; clear hK K)
  refine pi_act rfl rfl ?_; intro K hK; go_simp; refine (rotl_any x a _ hx a0 a1).mono ?_; rintro e _ ⟨rfl, rfl⟩; refine hK _ _ trivial ?_; clear hK K
  refine pi_act rfl rfl ?_; intro K hK; go_simp; refine (rotl_any x b _ hx b0 b1).mono ?_; rintro e _ ⟨rfl, rfl⟩; refine hK _ _ trivial ?_; clear hK K
  iterate 3 (refine pi_still rfl trivial rfl (fun w' hS => by go_simp; rfl) ?_; intro K hK; go_simp; refine hK _ _ ?_; clear hK K)
  refine pi_nil ?_
  go_wp2
  go_ret
  exact ⟨congrArg Ending.returned (vint (small3_val x a b c hx)), _, rfl⟩
end Go.Proofs.YtfofapggmoibkaaGreatDoor
namespace Go.Proofs.YtfofapggmoibkaaGreatDoor
open Go Go.RowKit

/-- the cells of an array of words -/
def wds (l : List Nat) : Array Value := (u32s l).toArray
theorem wds_size (l : List Nat) : (wds l).size = l.length := by simp [wds, u32s]
theorem wds_one (l : List Nat) : (wds l).all (·.oneCell') = true := all_oneCell_toArray (by intro v hv; simp only [u32s, List.mem_map] at hv; obtain ⟨x, _, rfl⟩ := hv; rfl)
theorem wds_set (l : List Nat) (j x : Nat) : (wds l).setIfInBounds j (.int .u32 x) = wds (l.set j x) := by
  apply Array.ext'
  simp [wds, u32s, List.map_set]
def zeros64 : List Nat := List.replicate 64 0
theorem info_64 : (Tryz.prog.info? 162).map (fun i => (i.zero, i.size)) = some (some (.agg (wds zeros64)), 64) := by kernel_rfl
theorem size_64 : (Tryz.prog.info? 162).map (·.size) = some 64 := by kernel_rfl
theorem shaK_wds : wds shaK = wds shaK := rfl
theorem shaK_len : shaK.length = 64 := by decide

set_option maxRecDepth 100000 in
set_option maxHeartbeats 2000000 in
theorem constantsP_any (w : World) : Calls Tryz.prog 138 #[] w fun e w' => e = .returned (.agg (wds shaK)) ∧ Ext w w' := by
  go_enter Tryz.func138, Tryz.ntmps138
  go_wp2_with (first
    | (refine alRow 162 (wds zeros64) (info_64.trans (by rw [wds_size]; rfl)) ?_)
    | (refine stRow 162 w.heap.size (wds shaK) rfl rfl 162 (wds zeros64) (heap_alloc_new w _) (size_64.trans (by rw [wds_size]; rfl)) (by rw [wds_size, wds_size]; rfl) (wds_one _) ?_))
  refine bodyPost_ret (v := .agg (wds shaK)) ?_ rfl ⟨rfl, ((Ext.refl w).alloc _).row (Nat.le_refl _) _⟩
  exact results_cell_row (p := 0) (ty := 162) rfl _ _ w.heap.size 162 (wds shaK) (0, 0) _ rfl (row_block (heap_alloc_new w _)) Tryz.underlying162 rfl (size_64.trans (by rw [wds_size]; rfl))
end Go.Proofs.YtfofapggmoibkaaGreatDoor
namespace Go.Proofs.YtfofapggmoibkaaGreatDoor
open Go Go.RowKit

/-- word i after k of its bytes -/
def partW (b : ByteArray) (i : Nat) : Nat → Nat
  | 0 => 0
  | k + 1 => (partW b i k * 256 % W32) ||| byt b (4 * i + k)
theorem partW_lt (b : ByteArray) (i k : Nat) : partW b i k < 4294967296 := by
  cases k with
  | zero => exact Nat.zero_lt_succ _
  | succ k => exact Nat.or_lt_two_pow (n := 32) (Nat.mod_lt _ (by decide)) (by have := byt_lt b (4 * i + k); omega)
theorem partW_val (b : ByteArray) (i k : Nat) : bits BinOp.or IntKind.u32 (((partW b i k : Nat) : Int) * 256 % 4294967296) ((byt b (4 * i + k) : Nat) : Int) = ((partW b i (k + 1) : Nat) : Int) := by
  rw [show ((partW b i k : Nat) : Int) * 256 = ((partW b i k * 256 : Nat) : Int) by simp, c_mod, or32 _ _ (show partW b i k * 256 % W32 < 4294967296 from Nat.mod_lt _ (by decide)) (by have := byt_lt b (4 * i + k); omega)]
  rfl
theorem or_byte (x y : Nat) (hx : x < 16777216) (hy : y < 256) : (x * 256 % W32) ||| y = x * 256 + y := by
  rw [Nat.mod_eq_of_lt (by simp only [W32]; omega)]
  have := Nat.two_pow_add_eq_or_of_lt (i := 8) (b := y) (by omega) x
  rw [show x * 256 = 2 ^ 8 * x by omega, ← this]
theorem partW_four (b : ByteArray) (i : Nat) : partW b i 4 = wordAt b i := by
  have h0 := byt_lt b (4 * i)
  have h1 := byt_lt b (4 * i + 1)
  have h2 := byt_lt b (4 * i + 2)
  have h3 := byt_lt b (4 * i + 3)
  have e1 : partW b i 1 = byt b (4 * i) := by simp [partW]
  have e2 : partW b i 2 = byt b (4 * i) * 256 + byt b (4 * i + 1) := by rw [partW, e1, or_byte _ _ (by omega) h1]
  have e3 : partW b i 3 = (byt b (4 * i) * 256 + byt b (4 * i + 1)) * 256 + byt b (4 * i + 2) := by rw [partW, e2, or_byte _ _ (by omega) h2]
  rw [partW, e3, or_byte _ _ (by omega) h3, wordAt]
  omega
/-- the array after i words -/
def schedA (b : ByteArray) (i : Nat) : List Nat := sched b i ++ List.replicate (64 - i) 0
theorem schedA_len (b : ByteArray) (i : Nat) (h : i ≤ 64) : (schedA b i).length = 64 := by simp [schedA, sched_len]; omega
theorem schedA_set (b : ByteArray) (i x : Nat) (h : i < 64) (hx : x = if i < 16 then wordAt b i else nextW (sched b i) i) : (schedA b i).set i x = schedA b (i + 1) := by
  obtain ⟨k, hk⟩ : ∃ k, 64 - i = k + 1 := ⟨63 - i, by omega⟩
  rw [schedA, hk, List.set_append_right _ _ (by rw [sched_len]; exact Nat.le_refl _), sched_len, Nat.sub_self, List.replicate_succ, List.set_cons_zero, schedA, show 64 - (i + 1) = k by omega, sched, ← hx]
  simp
theorem schedA_zero (b : ByteArray) (i : Nat) (h : i < 64) : (schedA b i).set i 0 = schedA b i := by
  obtain ⟨k, hk⟩ : ∃ k, 64 - i = k + 1 := ⟨63 - i, by omega⟩
  rw [schedA, hk, List.set_append_right _ _ (by rw [sched_len]; exact Nat.le_refl _), sched_len, Nat.sub_self, List.replicate_succ, List.set_cons_zero]
theorem schedA_all (b : ByteArray) : schedA b 64 = sched b 64 := by simp [schedA]
theorem schedA_get (b : ByteArray) (i j : Nat) (h : j < i) : (schedA b i).getD j 0 = (sched b i).getD j 0 := by
  simp [schedA, List.getD_eq_getElem?_getD, List.getElem?_append, sched_len, h]

set_option maxRecDepth 100000 in
set_option maxHeartbeats 4000000 in
theorem scheduleP_any (b : ByteArray) (hb : b.size = 64) (w : World) : Calls Tryz.prog 137 #[.string b] w fun e w' => e = .returned (.agg (wds (sched b 64))) ∧ Ext w w' := by
  have HB := Hd.mk hb; clear hb
  go_enter Tryz.func137, Tryz.ntmps137
  go_wp2_with (first
    | (refine alRow 162 (wds zeros64) (info_64.trans (by rw [wds_size]; rfl)) ?_))
  go_loopw [7] (fun i wr => ∃ (n : Nat), i = .int .i64 (n : Int) ∧ n ≤ 64 ∧ wr.heap[w.heap.size]? = some (.cells (wds zeros64) 162 (0, 0)) ∧ wr.heap[w.heap.size + 1]? = some (.cells (wds (schedA b n)) 162 (0, 0)) ∧ Ext w wr) (fun i _ => 100 - (intOf i).toNat)
  case atStart => exact ⟨0, rfl, by omega, (heap_alloc_old _ _ (by simp)).trans (heap_alloc_new w _), by simpa [schedA, sched, zeros64] using heap_alloc_new (w.alloc (.cells (wds zeros64) 162)) (.cells (wds zeros64) 162), ((Ext.refl w).alloc _).alloc _⟩
  case round =>
    obtain ⟨n, rfl, hn, hz, hrow, hext⟩ := hrel
    by_cases hlt : n < 64
    · by_cases h16 : n < 16
      · go_wp2
        simp only [show decide ((n : Int) < 64) = true from decide_eq_true (by omega), show decide ((n : Int) < 16) = true from decide_eq_true (by omega)]
        obtain ⟨wq, rfl⟩ : ∃ x, x = wr := ⟨_, rfl⟩
        have HROW := Hd.mk hrow; clear hrow
        have HZ := Hd.mk hz; clear hz
        go_loopw [12] (fun k wr => ∃ (m : Nat), k = .int .i64 (m : Int) ∧ m ≤ 4 ∧ wr.heap[w.heap.size]? = some (.cells (wds zeros64) 162 (0, 0)) ∧ wr.heap[w.heap.size + 1]? = some (.cells (wds ((schedA b n).set n (partW b n m))) 162 (0, 0)) ∧ Ext w wr) (fun k _ => 100 - (intOf k).toNat)
        case atStart => exact ⟨0, rfl, by omega, HZ.out, by rw [HROW.out, show (schedA b n).set n (partW b n 0) = schedA b n from schedA_zero b n hlt], hext⟩
        case round =>
          obtain ⟨m, rfl, hm, hz, hrow, hext2⟩ := hrel
          by_cases hlt4 : m < 4
          · have hc : wr.cell? ⟨w.heap.size + 1, n, none⟩ = some (.int .u32 ((partW b n m : Nat) : Int)) := cell_of hrow (by simp [wds, u32s, schedA_len b n (by omega), hlt])
            have hfr := free_of hrow n
            obtain ⟨q, hq⟩ : ∃ q, q = 4 * n + m := ⟨_, rfl⟩
            have hl : q < b.size := by rw [HB.out]; omega
            have hg := byt_get b _ hl
            have hpv := partW_val b n m
            rw [← hq, ← show ((byt b q : Nat) : Int) % 4294967296 = ((byt b q : Nat) : Int) by have := byt_lt b q; omega] at hpv
            have HQ := Hd.mk hq; clear hq
            go_wp2
            have x1 : IntKind.i64.wrap (4 * (n : Int)) = 4 * (n : Int) := IntWalk.i64_in _ (by omega)
            have x2 : IntKind.i64.wrap (4 * (n : Int) + (m : Int)) = (q : Int) := by rw [HQ.out]; exact (IntWalk.i64_in _ (by omega)).trans (by simp)
            have i1 : (q : Int) < (b.size : Int) := by omega
            refine wp_region_pi (fun _ => True) [(true, 0), (true, 1), (true, 2), (true, 5), (true, 6), (true, 7), (true, 8), (true, 9), (true, 10), (true, 11), (false, 3), (true, 4), (true, 12), (true, 13), (false, 14)] (by kernel_rfl) (by kernel_rfl) (by intro c a d v w h; cases d <;> exact h) ?_
            have hcd : wr.drew.cell? ⟨w.heap.size + 1, n, none⟩ = some (.int .u32 ((partW b n m : Nat) : Int)) := hc
            iterate 10 (refine pi_still rfl trivial rfl (fun w' hS => by go_simp; rfl) ?_; intro K hK; go_simp; refine hK _ _ ?_; clear hK K)
            refine pi_act rfl rfl ?_; intro K hK; go_simp; refine hK _ _ trivial ?_; clear hK K
            iterate 3 (refine pi_still rfl trivial rfl (fun w' hS => by go_simp; rfl) ?_; intro K hK; go_simp; refine hK _ _ ?_; clear hK K)
            refine pi_act rfl rfl ?_; intro K hK; go_simp; refine hK _ _ trivial ?_; clear hK K
            refine pi_nil ?_
            go_wp2
            go_roundw
            case rel =>
              refine ⟨m + 1, vint (by simp), by omega, (set_other _ (by omega)).trans hz, ?_, ((hext2.set (by omega) _ _).drew)⟩
              refine (set_block hrow _).trans ?_
              rw [hpv, wds_set, List.set_set]
            case measure => simp only [intOf]; omega
          · obtain rfl : m = 4 := by omega
            rw [partW_four, schedA_set b n _ hlt (by rw [if_pos h16])] at hrow
            go_wp2
            go_roundw
            case rel => exact ⟨n + 1, vint (by simp), by omega, hz, hrow, hext2⟩
            case measure => simp only [intOf]; omega
      · obtain ⟨k, rfl⟩ : ∃ k, n = k + 16 := ⟨n - 16, by omega⟩
        have hlen := schedA_len b (k + 16) (by omega)
        have hcell : ∀ j, j < k + 16 → wr.cell? ⟨w.heap.size + 1, j, none⟩ = some (.int .u32 (((sched b (k + 16)).getD j 0 : Nat) : Int)) ∧ Hd ((sched b (k + 16)).getD j 0 < 4294967296) := fun j hj => by
          refine ⟨?_, ⟨?_⟩⟩
          · rw [← schedA_get b (k + 16) j hj]
            exact cell_of hrow (by simp [wds, u32s, List.getD_eq_getElem?_getD, List.getElem?_eq_getElem (show j < (schedA b (k + 16)).length by omega)])
          · rw [List.getD_eq_getElem?_getD, List.getElem?_eq_getElem (show j < (sched b (k + 16)).length by rw [sched_len]; exact hj)]
            exact sched_lt _ _ _ (List.getElem_mem _)
        obtain ⟨c1, b1⟩ := hcell (k + 1) (by omega)
        obtain ⟨c14, b14⟩ := hcell (k + 14) (by omega)
        obtain ⟨c9, b9⟩ := hcell (k + 9) (by omega)
        obtain ⟨c0, b0⟩ := hcell k (by omega)
        have hst : ∀ w2, Ext wr w2 → w2.cell? ⟨w.heap.size + 1, k + 16, none⟩ = some (.int .u32 (((schedA b (k + 16)).getD (k + 16) 0 : Nat) : Int)) ∧ w2.frozen? ⟨w.heap.size + 1, k + 16, none⟩ = false ∧ w2.heap[w.heap.size + 1]? = some (.cells (wds (schedA b (k + 16))) 162 (0, 0)) ∧ w2.heap[w.heap.size]? = some (.cells (wds zeros64) 162 (0, 0)) := fun w2 hx => by
          have hrow2 := (hx.block (w.heap.size + 1) (Array.getElem?_eq_some_iff.1 hrow).1).trans hrow
          exact ⟨cell_of hrow2 (by simp [wds, u32s, List.getD_eq_getElem?_getD, List.getElem?_eq_getElem (show k + 16 < (schedA b (k + 16)).length by omega)]), free_of hrow2 _, hrow2, (hx.block w.heap.size (Array.getElem?_eq_some_iff.1 hz).1).trans hz⟩
        have hnw : nextW (sched b (k + 16)) (k + 16) = add32 (add32 (add32 (small3 ((sched b (k + 16)).getD (k + 14) 0) 17 19 10) ((sched b (k + 16)).getD (k + 9) 0)) (small3 ((sched b (k + 16)).getD (k + 1) 0) 7 18 3)) ((sched b (k + 16)).getD k 0) := by
          simp [nextW, ssig0, ssig1, small3]
        generalize (sched b (k + 16)).getD (k + 1) 0 = a1 at *
        generalize (sched b (k + 16)).getD (k + 14) 0 = a14 at *
        generalize (sched b (k + 16)).getD (k + 9) 0 = a9 at *
        generalize (sched b (k + 16)).getD k 0 = a0 at *
        generalize (schedA b (k + 16)).getD (k + 16) 0 = z0 at *
        have HN := Hd.mk hnw; clear hnw hcell hlen
        have HST := Hd.mk hst; clear hst hrow hz
        go_wp2
        have i1 : (0 : Int) ≤ (k : Int) + 1 := by omega
        have i2 : (k : Int) + 1 < 64 := by omega
        have i3 : (0 : Int) ≤ (k : Int) + 14 := by omega
        have i4 : (k : Int) + 14 < 64 := by omega
        have i5 : (0 : Int) ≤ (k : Int) + 9 := by omega
        have i6 : (k : Int) + 9 < 64 := by omega
        have i7 : (0 : Int) ≤ (k : Int) := by omega
        have i8 : (k : Int) < 64 := by omega
        have i9 : (0 : Int) ≤ (k : Int) + 16 := by omega
        have i10 : (k : Int) + 16 < 64 := by omega
        have n1 : ((k : Int) + 1).toNat = k + 1 := by omega
        have n2 : ((k : Int) + 14).toNat = k + 14 := by omega
        have n3 : ((k : Int) + 9).toNat = k + 9 := by omega
        have n4 : ((k : Int) + 16).toNat = k + 16 := by omega
        have x1 : IntKind.i64.wrap ((k : Int) + 16 - 15) = (k : Int) + 1 := by rw [show (k : Int) + 16 - 15 = (k : Int) + 1 by omega]; exact IntWalk.i64_in _ (by omega)
        have v2 : IntKind.i64.wrap ((k : Int) + 16 - 2) = (k : Int) + 14 := by rw [show (k : Int) + 16 - 2 = (k : Int) + 14 by omega]; exact IntWalk.i64_in _ (by omega)
        have v3 : IntKind.i64.wrap ((k : Int) + 16 - 7) = (k : Int) + 9 := by rw [show (k : Int) + 16 - 7 = (k : Int) + 9 by omega]; exact IntWalk.i64_in _ (by omega)
        have v4 : IntKind.i64.wrap ((k : Int) + 16 - 16) = (k : Int) := by rw [show (k : Int) + 16 - 16 = (k : Int) by omega]; exact IntWalk.i64_in _ (by omega)
        have v5 : IntKind.i64.wrap (k : Int) = (k : Int) := IntWalk.i64_in _ (by omega)
        have hadd := add_val
        refine wp_region_pi (fun w' => w'.cell? ⟨w.heap.size + 1, k + 1, none⟩ = some (.int .u32 (a1 : Int)) ∧ w'.cell? ⟨w.heap.size + 1, k + 14, none⟩ = some (.int .u32 (a14 : Int)) ∧ w'.cell? ⟨w.heap.size + 1, k + 9, none⟩ = some (.int .u32 (a9 : Int)) ∧ w'.cell? ⟨w.heap.size + 1, k, none⟩ = some (.int .u32 (a0 : Int))) [(true, 0), (true, 1), (true, 2), (true, 3), (true, 4), (true, 5), (true, 7), (true, 8), (true, 9), (true, 10), (true, 12), (true, 13), (true, 14), (true, 15), (true, 16), (true, 19), (true, 20), (true, 21), (true, 22), (false, 6), (true, 11), (false, 17), (true, 18), (true, 23), (true, 24), (false, 25)] (by kernel_rfl) (by kernel_rfl) (by intro c a d v w h; cases d <;> exact h) ?_
        have HSS := fun w2 (hx : Ext wr w2) => Hd.mk (And.intro (hx.cell c1) (And.intro (hx.cell c14) (And.intro (hx.cell c9) (hx.cell c0))))
        have HX1 := Hd.mk ((Ext.refl wr).drew)
        iterate 19 (refine pi_still rfl (HSS _ HX1.out).out rfl (fun w' hS => by obtain ⟨s1, s2, s3, s4⟩ := hS; go_simp; rfl) ?_; intro K hK; go_simp; refine hK _ _ ?_; clear hK K)
        refine pi_act rfl rfl ?_; intro K hK; go_simp; refine (smallfn_any a14 17 19 10 _ b14.out (by omega) (by omega) (by omega) (by omega) (by omega) (by omega)).mono ?_; rintro e w1 ⟨rfl, hd1⟩
        have HX2 := Hd.mk (HX1.out.trans hd1.ext); clear hd1
        refine hK _ _ (HSS _ HX2.out).out ?_; clear hK K
        iterate 1 (refine pi_still rfl (HSS _ HX2.out).out rfl (fun w' hS => by obtain ⟨s1, s2, s3, s4⟩ := hS; go_simp; rfl) ?_; intro K hK; go_simp; refine hK _ _ ?_; clear hK K)
        refine pi_act rfl rfl ?_; intro K hK; go_simp; refine (smallfn_any a1 7 18 3 _ b1.out (by omega) (by omega) (by omega) (by omega) (by omega) (by omega)).mono ?_; rintro e w2 ⟨rfl, hd2⟩
        have HX3 := Hd.mk (HX2.out.trans hd2.ext); clear hd2
        refine hK _ _ (HSS _ HX3.out).out ?_; clear hK K
        iterate 3 (refine pi_still rfl (HSS _ HX3.out).out rfl (fun w' hS => by obtain ⟨s1, s2, s3, s4⟩ := hS; go_simp; rfl) ?_; intro K hK; go_simp; refine hK _ _ ?_; clear hK K)
        obtain ⟨hc2, hf2, hrow2, hz2⟩ := HST.out _ HX3.out
        have HR2 := Hd.mk hrow2; clear hrow2
        have HZ2 := Hd.mk hz2; clear hz2
        refine pi_act rfl rfl ?_; intro K hK; go_simp
        have far : ∀ j v x, j ≠ k + 16 → w2.cell? ⟨w.heap.size + 1, j, none⟩ = some v → (w2.setCell ⟨w.heap.size + 1, k + 16, none⟩ x).cell? ⟨w.heap.size + 1, j, none⟩ = some v := fun j v x hj hv => by
          exact (World.cell?_setCell_other w2 ⟨w.heap.size + 1, k + 16, none⟩ ⟨w.heap.size + 1, j, none⟩ x (by intro h; injection h; omega)).trans hv
        obtain ⟨q1, q2, q3, q4⟩ := (HSS _ HX3.out).out
        refine hK _ _ ⟨far _ _ _ (by omega) q1, far _ _ _ (by omega) q2, far _ _ _ (by omega) q3, far _ _ _ (by omega) q4⟩ ?_; clear hK K
        refine pi_nil ?_
        clear hadd x1 v2 v3 v4 v5 q1 q2 q3 q4 far
        go_wp2
        go_roundw
        case rel =>
          refine ⟨k + 17, vint (by simp; omega), by omega, (set_other _ (by omega)).trans HZ2.out, ?_, (hext.trans HX3.out).set (by omega) _ _⟩
          refine (set_block HR2.out _).trans ?_
          rw [wds_set, schedA_set b (k + 16) _ (by omega) (by rw [if_neg (by omega), HN.out])]
        case measure => simp only [intOf]; omega
    · obtain rfl : n = 64 := by omega
      rw [schedA_all] at hrow
      have hz1 := size_64.trans (show some 64 = some (wds (sched b 64)).size by rw [wds_size, sched_len])
      have hz2 : (wds zeros64).size = (wds (sched b 64)).size := by rw [wds_size, wds_size, sched_len]; rfl
      have hone := wds_one (sched b 64)
      generalize hcs : wds (sched b 64) = cs at *
      have HCS := Hd.mk hcs; clear hcs
      have HX := Hd.mk hext; clear hext
      have HR := Hd.mk hrow; clear hrow
      have HZ := Hd.mk hz; clear hz
      have H1 := Hd.mk hz1; clear hz1
      have H2 := Hd.mk hz2; clear hz2
      have H3 := Hd.mk hone; clear hone
      go_wp2_with (refine ldRow 162 (w.heap.size + 1) rfl 162 cs _ HR.out Tryz.underlying162 rfl H1.out (stRow 162 w.heap.size cs rfl rfl 162 (wds zeros64) HZ.out H1.out H2.out H3.out ?_))
      refine bodyPost_ret (v := .agg cs) ?_ (by rfl) ⟨by rw [HCS.out], HX.out.row (Nat.le_refl _) _⟩
      exact results_cell_row (p := 2) (ty := 162) rfl _ _ w.heap.size 162 cs (0, 0) _ (by rfl) (row_block HZ.out) Tryz.underlying162 rfl H1.out
end Go.Proofs.YtfofapggmoibkaaGreatDoor
namespace Go.Proofs.YtfofapggmoibkaaGreatDoor
open Go Go.RowKit

/-! number -/
def be8Z (n j : Nat) : List UInt8 := (be8 n).take j ++ List.replicate (8 - j) 0
theorem be8Z_len (n j : Nat) (h : j ≤ 8) : (be8Z n j).length = 8 := by simp [be8Z, be8]; omega
theorem be8Z_set (n j : Nat) (h : j < 8) (x : Int) (hx : x = (n : Int) / 2 ^ (8 * (7 - (j : Int))).toNat % 256) : (u8s (be8Z n j)).set j (.int .u8 x) = u8s (be8Z n (j + 1)) := by
  subst hx
  obtain ⟨k, hk⟩ : ∃ k, 8 - j = k + 1 := ⟨7 - j, by omega⟩
  have hs := be8_step n j (7 - (j : Int)) (by omega) (by omega)
  rw [be8Z, hk, List.replicate_succ, be8Z, show 8 - (j + 1) = k by omega]
  simp only [u8s, List.map_append, List.map_cons] at hs ⊢
  rw [List.set_append_right _ _ (by simp [be8]; omega)]
  rw [show j - (List.map (fun b : UInt8 => Value.int IntKind.u8 (b.toNat : Int)) (List.take j (be8 n))).length = 0 by simp [be8]; omega, List.set_cons_zero, ← hs]
  simp
theorem info_8b : (Tryz.prog.info? 168).map (fun i => (i.zero, i.size)) = some (some (.agg (u8s (be8Z 0 0)).toArray), 8) := by kernel_rfl

set_option maxRecDepth 100000 in
set_option maxHeartbeats 1000000 in
theorem numberP_any (n : Nat) (hn : n < 18446744073709551616) (w : World) : Calls Tryz.prog 111 #[.int .u64 n] w fun e w' => e = .returned (.string ⟨(be8 n).toArray⟩) ∧ Ext w w' := by
  go_enter Tryz.func111, Tryz.ntmps111
  go_wp2_with (first | (refine alRow 168 (u8s (be8Z 0 0)).toArray (info_8b.trans (by rfl)) ?_))
  go_loopw [5] (fun i wr => ∃ (j : Nat), i = .int .i64 (j : Int) ∧ j ≤ 8 ∧ wr.heap[w.heap.size]? = some (.cells (u8s (be8Z n j)).toArray 168 (0, 0)) ∧ Ext w wr) (fun i _ => 100 - (intOf i).toNat)
  case atStart => exact ⟨0, rfl, by omega, heap_alloc_new w _, (Ext.refl w).alloc _⟩
  case round =>
    obtain ⟨j, rfl, hj, hrow, hext⟩ := hrel
    by_cases hlt : j < 8
    · have hl : j < (be8Z n j).length := by rw [be8Z_len n j hj]; exact hlt
      have hc : wr.cell? ⟨w.heap.size, j, none⟩ = some ((u8s (be8Z n j)).toArray[j]'(by simpa [u8s] using hl)) := cell_of hrow (by simp only [List.getElem?_toArray, List.getElem_toArray]; exact List.getElem?_eq_getElem _)
      have hfr := free_of hrow j
      have hst := be8Z_set n j hlt _ rfl
      have HR := Hd.mk hrow; clear hrow
      have HS := Hd.mk hst; clear hst
      have x1 : 8 * (j : Int) ≤ 56 := by omega
      go_wp2
      go_roundw
      case rel =>
        refine ⟨j + 1, vint (by simp), by omega, (set_block HR.out _).trans ?_, hext.set (Nat.le_refl _) _ _⟩
        rw [List.setIfInBounds_toArray, ← HS.out, show (8 * (7 - (j : Int))).toNat = 56 - 8 * j by omega]
      case measure => simp only [intOf]; omega
    · obtain rfl : j = 8 := by omega
      have hb : be8Z n 8 = be8 n := by simp [be8Z, be8]
      rw [hb] at hrow
      have hown : wr.ownsRow w.heap.size 168 1 (.slice (some ⟨w.heap.size, 0, none⟩) 8 8) 8 (u8s (be8 n)) := ⟨by simp [u8s, be8], .inr ⟨w.heap.size, 8, _, rfl, Nat.le_refl _, hrow, Nat.le_refl _, by simp [maxLen], by simp [u8s, be8], by simp [u8s, be8]⟩⟩
      have hcv := own_str hown Tryz.underlying45 Tryz.underlying5 Tryz.underlying9
      clear hown hrow
      go_wp2
      go_ret
      exact ⟨rfl, hext⟩

/-! the state -/
def hashV (s : St) (rest : ByteArray) (total : Nat) : Array Value := (u32s (stL s) ++ [Value.string rest, Value.int .u64 total]).toArray
def HashAt (w : World) (g : Nat) (s : St) (rest : ByteArray) (total : Nat) : Prop := w.heap[g]? = some (.cells (hashV s rest total) 138 (0, 0))
theorem hashV_one (s : St) (rest : ByteArray) (total : Nat) : (hashV s rest total).all (·.oneCell') = true := all_oneCell_toArray (by
  intro v hv
  simp only [u32s, stL, List.mem_append, List.mem_map, List.mem_cons, List.mem_nil_iff, or_false] at hv
  rcases hv with ⟨x, _, rfl⟩ | rfl | rfl <;> rfl)
theorem hashAll {w : World} {g : Nat} {s : St} {rest : ByteArray} {total : Nat} (h : HashAt w g s rest total) : w.rangeAt g 0 (u32s (stL s) ++ [Value.string rest, Value.int .u64 total]) := by
  have := World.rangeAt_of_block h 0 10
  rwa [show ((hashV s rest total).extract 0 (0 + 10)).toList = u32s (stL s) ++ [Value.string rest, Value.int .u64 total] by simp [hashV, u32s, stL]] at this
set_option maxRecDepth 100000 in
theorem newP_any (w : World) : Calls Tryz.prog 79 #[] w fun e w' => e = .returned (.pointer (some ⟨w.heap.size, 0, none⟩)) ∧ HashAt w' w.heap.size initS ⟨#[]⟩ 0 ∧ Ext w w' := by
  go_enter Tryz.func79, Tryz.ntmps79
  go_wp2
  go_ret
  exact ⟨rfl, heap_alloc_new _ _, (Ext.refl w).alloc _⟩
set_option maxRecDepth 100000 in
theorem cloneP_any (w : World) (g : Nat) (s : St) (rest : ByteArray) (total : Nat) (h : HashAt w g s rest total) : Calls Tryz.prog 109 #[.pointer (some ⟨g, 0, none⟩)] w fun e w' => e = .returned (.pointer (some ⟨w.heap.size, 0, none⟩)) ∧ HashAt w' w.heap.size s rest total ∧ Ext w w' := by
  have HH := Hd.mk h; clear h
  have hi : (Tryz.prog.info? 138).map (fun i => (i.zero, i.size)) = some (some (.agg (hashV ⟨0, 0, 0, 0, 0, 0, 0, 0⟩ ⟨#[]⟩ 0)), 10) := by kernel_rfl
  have HI := Hd.mk hi; clear hi
  go_enter Tryz.func109, Tryz.ntmps109
  go_wp2_with (first
    | (refine copyMid 138 (hashV ⟨0, 0, 0, 0, 0, 0, 0, 0⟩ ⟨#[]⟩ 0) HI.out g 0 (u32s (stL s) ++ [Value.string rest, Value.int .u64 total]) _ (n := 7) rfl (by decide) rfl (hashAll HH.out) Tryz.underlying138 rfl rfl (hashV_one _ _ _) ?_; intro W hW hxW hzW))
  go_ret
  exact ⟨rfl, hW, hxW⟩
end Go.Proofs.YtfofapggmoibkaaGreatDoor
