/- A strings.Builder in a block of the call's own: WriteString appends the bytes, and nothing else turns. The reference's codec (r02), walked: writers, and the reader of numbers. The reference's codec (r02) and digests (r46), walked. The reference's lists of strings (r02) and digests (r46), walked. Calls of function values over lists of strings: slices.ContainsFunc; codec.Texts. The program's lists of strings as bytes: codec.Texts. Objects of the program: valid, Encode, Digest. Objects of the program: Decode. The reference's objects (r49), walked: Valid, Encode, Digest, Same, Few. -/
import Derived.Test.YtfofapggmoibkaaGreatDoorProg
import Derived.Test.YtfofapggmoibkaaGreatDoorFoundA
import Derived.Lib.Builder
import Derived.Lib.AppendStr
import Derived.Lib.UnsafeStr
import Derived.LaidEqlPtr
import Derived.Test.YtfofapggmoibkaaGreatDoorCodecX
import Derived.Test.YtfofapggmoibkaaGreatDoorReadX
import Derived.Test.YtfofapggmoibkaaGreatDoorShaX
import Derived.Test.YtfofapggmoibkaaGreatDoorFoundB
import Derived.Test.YtfofapggmoibkaaGreatDoorShelf
import Derived.Test.YtfofapggmoibkaaGreatDoorShaW
set_option linter.unusedVariables false
set_option linter.unusedSimpArgs false
namespace Go.Proofs.YtfofapggmoibkaaGreatDoor
open Go Go.RowKit

abbrev TB : Nat := 79
theorem sizeBuilder : (Tryz.prog.info? 79).map (·.size) = some 2 := by kernel_rfl
theorem liesBuilder : liesAt Tryz.prog Tryz.prog.depth 79 (2 / Tryz.prog.cellsOf 79) 0 79 1 = true := by kernel_rfl
theorem infoByte : (Tryz.prog.info? 5).map (fun i => (i.zero, i.size, i.bytes)) = some (some (.int .u8 0), 1, 1) := by kernel_rfl

set_option maxRecDepth 100000 in
set_option maxHeartbeats 1000000 in
theorem copyCheck_used (b : Nat) (w : World) (h0 : w.cell? ⟨b, 0, none⟩ = some (.pointer (some ⟨b, 0, none⟩))) :
    Calls Tryz.prog 91 #[.pointer (some ⟨b, 0, none⟩)] w fun e w' => e = .returned (.tuple #[]) ∧ w = w' := by
  obtain ⟨j, hj, _⟩ := Option.map_eq_some_iff.1 sizeBuilder
  go_enter Tryz.func91, Tryz.ntmps91
  go_wp2
  rw [Lib.run_neq_ptr_same w _ Tryz.underlying77 hj]
  go_wp2
  go_end0
  exact ⟨rfl, rfl⟩
set_option maxRecDepth 100000 in
set_option maxHeartbeats 1000000 in
theorem copyCheck_fresh (b : Nat) (w : World) (h0 : w.cell? ⟨b, 0, none⟩ = some (.pointer none)) (hsh : w.shape? b = some (79, 2)) (hfz : w.frozen? ⟨b, 0, none⟩ = false) :
    Calls Tryz.prog 91 #[.pointer (some ⟨b, 0, none⟩)] w fun e w' => e = .returned (.tuple #[]) ∧ w' = w.setCell ⟨b, 0, none⟩ (.pointer (some ⟨b, 0, none⟩)) := by
  obtain ⟨j, hj, hjs⟩ := Option.map_eq_some_iff.1 sizeBuilder
  go_enter Tryz.func91, Tryz.ntmps91
  go_wp2
  rw [Lib.run_to_unsafe w ⟨b, 0, none⟩ Tryz.underlying77 Tryz.underlying144 hj (by rw [hjs]; decide) hsh (Nat.zero_lt_succ 1)]
  simp only [Result.andThen]
  rw [Oper.upon_value]
  go_wp2
  rw [run_callFunc_extern Tryz.func117 (by kernel_rfl) (by kernel_rfl) (by kernel_rfl) (e := Extern.AbiNoEscape.same) (by kernel_rfl)]
  rw [Lib.run_noEscape]
  simp only [Result.andThen]
  rw [Oper.upon_value]
  go_wp2
  rw [Lib.run_from_unsafe w ⟨b, 0, none⟩ Tryz.underlying144 Tryz.underlying77 hj hsh liesBuilder]
  simp only [Result.andThen]
  rw [Oper.upon_value]
  go_wp2
  go_end0
  exact ⟨rfl, rfl⟩

/-- All blocks but b, and but rows of bytes from B on, are as they were. -/
structure KeepB (B b : Nat) (w w' : World) : Prop where
  below : Below B w w'
  other : ∀ k, k < w.heap.size → k ≠ b → (∀ c fr, w.heap[k]? ≠ some (.cells c 5 fr)) → w'.heap[k]? = w.heap[k]?
theorem KeepB.refl (B b : Nat) (w : World) : KeepB B b w w := ⟨Below.refl _ _, fun _ _ _ _ => rfl⟩
theorem KeepB.trans {B b : Nat} {w w1 w2 : World} (h : KeepB B b w w1) (k : KeepB B b w1 w2) : KeepB B b w w2 :=
  ⟨h.below.trans k.below, fun i hi hb hc => by
    have e := h.other i hi hb hc
    rw [k.other i (Nat.lt_of_lt_of_le hi h.below.size) hb (fun c fr => by rw [e]; exact hc c fr), e]⟩
theorem KeepB.ext {B b : Nat} {w w1 w2 : World} (h : KeepB B b w w1) (hB : B ≤ w1.heap.size) (k : Ext w1 w2) : KeepB B b w w2 :=
  ⟨h.below.trans ⟨k.os, k.tape, k.output, k.size, fun i hi => k.block i (Nat.lt_of_lt_of_le hi hB)⟩, fun i hi hb hc => by
    rw [k.block i (Nat.lt_of_lt_of_le hi h.below.size), h.other i hi hb hc]⟩

abbrev Bld (w : World) (B b : Nat) (l : List UInt8) : Prop := Lib.IsBuilder 79 5 B b (Lib.byteCells l) w

theorem copyCheck_any (B b : Nat) (bs : List Value) (w : World) (h : Lib.IsBuilder 79 5 B b bs w) :
    Calls Tryz.prog 91 #[.pointer (some ⟨b, 0, none⟩)] w fun e w' => e = .returned (.tuple #[]) ∧ (Lib.BuilderAt 79 5 B b (.pointer (some ⟨b, 0, none⟩)) bs w' ∧ KeepB B b w w') := by
  rcases h with h | h
  · refine (copyCheck_fresh b w h.cell0 h.shape h.frozen0).mono ?_
    rintro e w' ⟨rfl, rfl⟩
    exact ⟨rfl, h.used _, (Below.refl B w).setCell (p := ⟨b, 0, none⟩) h.1 _, fun k _ hk _ => Below.heap_setCell _ _ _ _ hk⟩
  · refine (copyCheck_used b w h.cell0).mono ?_
    rintro e w' ⟨rfl, rfl⟩
    exact ⟨rfl, h, KeepB.refl B b _⟩

set_option maxHeartbeats 1000000 in
set_option maxRecDepth 100000 in
theorem writeString (B b : Nat) (l : List UInt8) (s : ByteArray) (w : World) (h : Bld w B b l) (hlen : l.length ≤ 10000000000) (hs : s.size ≤ 10000000000) (hBw : B ≤ w.heap.size) :
    Calls Tryz.prog 55 #[.pointer (some ⟨b, 0, none⟩), .string s] w fun e w' => e = .returned (.tuple #[.int .i64 s.size, .nilIface]) ∧ (Bld w' B b (l ++ s.data.toList) ∧ KeepB B b w w') := by
  obtain ⟨i0, hi, hz0, hz1, hz2⟩ := info_parts infoByte
  go_enter Tryz.func55, Tryz.ntmps55
  go_wp2_with (go_at_call 91; refine (copyCheck_any B b _ _ h).mono ?_)
  rintro e w1 ⟨rfl, h1, hb1⟩
  obtain ⟨hB, v, hbk, hown, hne⟩ := h1
  have c0 : w1.cell? ⟨b, 0, none⟩ = some (.pointer (some ⟨b, 0, none⟩)) := by rw [Lib.cell_of_heap hbk]; rfl
  have c1 : w1.cell? ⟨b, 1, none⟩ = some v := by rw [Lib.cell_of_heap hbk]; rfl
  have hlb : (Lib.byteCells l).length = l.length := by simp [Lib.byteCells]
  have HLB := Hd.mk hlb; clear hlb
  go_wp2_with (at_builtin; go_must (refine Lib.wpList_append_own_string _ rfl _ _ 45 9 rfl B 5 i0 Tryz.underlying45 Tryz.underlying9 hi hz0 hz1 hz2 _ _ _ rfl hown s rfl ?c3 ?c4 ?c5 ?_))
  case c3 => rw [HLB.out]; unfold maxLen; omega
  case c4 => rw [HLB.out]; omega
  case c5 => have := hb1.below.size; omega
  intro v' w2 hown' hgrow _
  have hlt : b < w1.heap.size := (Array.getElem?_eq_some_iff.1 hbk).1
  have hb2 : w2.heap[b]? = some (.cells #[.pointer (some ⟨b, 0, none⟩), v] 79 (0, 0)) := by
    rw [hgrow.block b hlt (fun e => hne e.symm)]
    exact hbk
  have d0 : w2.cell? ⟨b, 0, none⟩ = some (.pointer (some ⟨b, 0, none⟩)) := by rw [Lib.cell_of_heap hb2]; rfl
  have d1 : w2.cell? ⟨b, 1, none⟩ = some v := by rw [Lib.cell_of_heap hb2]; rfl
  have f1 : w2.frozen? ⟨b, 1, none⟩ = false := Lib.frozen_of_heap hb2 1
  obtain ⟨ao, n', cap, rfl⟩ : ∃ ao n' cap, v' = .slice ao n' cap := by
    rcases hown'.2 with ⟨hv, _⟩ | ⟨g, cap, cur, hv, _⟩
    · exact ⟨_, _, _, hv⟩
    · exact ⟨_, _, _, hv⟩
  go_wp2
  go_ret2
  refine ⟨rfl, ?_, ?_⟩
  · refine Or.inr ?_
    have e : Lib.byteCells (l ++ s.data.toList) = Lib.byteCells l ++ Lib.strCells s := by simp [Lib.byteCells, Lib.strCells]
    rw [e]
    exact Lib.BuilderAt.put (T := 79) (e := 5) hB hb2 (bs' := Lib.byteCells l ++ Lib.strCells s) (by simpa [Lib.strCells_length] using hown') (by decide)
  · have hbelow : Below B w (w2.setCell ⟨b, 1, none⟩ (.slice ao n' cap)) := (hb1.below.grown hgrow (by have := hb1.below.size; omega) (fun k hk => (hown.lt k hk).1)).setCell (p := ⟨b, 1, none⟩) hB _
    refine ⟨hbelow, fun k hk hkb hc => ?_⟩
    rw [Below.heap_setCell _ _ _ _ hkb]
    have e1 := hb1.other k hk hkb hc
    rw [hgrow.block k (Nat.lt_of_lt_of_le hk hb1.below.size) ?_, e1]
    intro he
    rcases hown.2 with ⟨rfl, _⟩ | ⟨g, cap', cur, rfl, _, hg, _⟩
    · simp [Value.ownBlock] at he
    · simp only [Value.ownBlock, Option.some.injEq] at he
      subst he
      rw [e1] at hg
      exact hc _ _ hg
end Go.Proofs.YtfofapggmoibkaaGreatDoor
namespace Go.Proofs.YtfofapggmoibkaaGreatDoor
open Go Go.RowKit

set_option maxRecDepth 100000 in
set_option maxHeartbeats 1000000 in
theorem unsignedR_any (n : Nat) (hn : n < 18446744073709551616) (w : World) :
    Calls Tryz.prog 78 #[.int .u64 n] w fun e w' => e = .returned (.string (uvs n)) ∧ Ext w w' := by
  go_enter Tryz.func78, Tryz.ntmps78
  go_wp2
  go_loopw [0, 3] (fun n' v wr => ∃ (m : Nat) (acc : List UInt8), n' = .int .u64 m ∧ m ≤ n ∧ wr.ownsRow w.heap.size 5 1 v acc.length (u8s acc) ∧ acc ++ uv m = uv n ∧ Ext w wr ∧ (∀ k, v.ownBlock = some k → w.heap.size ≤ k)) (fun n' _ _ => (intOf n').toNat)
  case atStart => exact ⟨n, [], rfl, Nat.le_refl _, by simpa [u8s] using own_empty w _ _ (Nat.le_refl _), rfl, (Ext.refl _).alloc _, by intro k hk; cases hk; exact Nat.le_refl _⟩
  case round =>
    obtain ⟨m, acc, rfl, hm, hown, hacc, hext, hbk⟩ := hrel
    have hlen' : acc.length ≤ 1000000 := by
      have h1 := uv_len 9 n (by omega)
      rw [← hacc, List.length_append] at h1
      omega
    have HA := Hd.mk hacc; clear hacc
    have HB := Hd.mk hbk; clear hbk
    have hb0 : w.heap.size ≤ wr.heap.size := hext.size
    by_cases hlt : 128 ≤ m
    · go_wp2_with (at_builtin; go_must (refine app1 w.heap.size rfl _ _ 45 5 (.int .u8 0) 1 rfl Tryz.underlying45 info_u8 rfl hown rfl rfl rfl hb0 hlen' (by decide) ?_); intro v1 w1 hown1 hg1 hat1)
      go_roundw
      case rel =>
        refine ⟨m / 128, acc ++ [UInt8.ofNat (m % 128 + 128)], by simp, by omega, ?_, ?_, hext.grown hg1 HB.out, own_base hown1⟩
        · rw [u8s_snoc _ (UInt8.ofNat (m % 128 + 128)) _ (by simp; omega)] at hown1
          simpa using hown1
        · rw [← HA.out, uv_big (by omega : ¬ m < 128)]; simp
      case measure => simp [intOf]; omega
    · go_wp2_with (at_builtin; go_must (refine app1 w.heap.size rfl _ _ 45 5 (.int .u8 0) 1 rfl Tryz.underlying45 info_u8 rfl hown rfl rfl rfl hb0 hlen' (by decide) ?_); intro v1 w1 hown1 hg1 hat1; go_must (rw [u8s_snoc _ (UInt8.ofNat m) _ (by simp; omega)] at hown1); have hcv := own_str hown1 Tryz.underlying45 Tryz.underlying5 Tryz.underlying9)
      go_ret
      refine ⟨?_, hext.grown hg1 HB.out⟩
      rw [uvs, ← HA.out, uv_small (by omega : m < 128)]
      rfl
theorem unsignedR_int (n : Int) (w : World) (h0 : 0 ≤ n) (h1 : n < 18446744073709551616) :
    Calls Tryz.prog 78 #[.int .u64 n] w fun e w' => e = .returned (.string (uvs n.toNat)) ∧ Ext w w' := by
  obtain ⟨m, rfl⟩ := Int.eq_ofNat_of_zero_le h0
  exact unsignedR_any m (by omega) w
set_option maxHeartbeats 400000 in
theorem textR_any (s : ByteArray) (w : World) (hs : s.size ≤ 1000000000000) :
    Calls Tryz.prog 45 #[.string s] w fun e w' => e = .returned (.string (txt s)) ∧ Ext w w' := by
  have hz := uvs_size s.size (by omega)
  go_enter Tryz.func45, Tryz.ntmps45
  go_wp2_with (go_at_call 78; refine (unsignedR_int _ _ (by omega) (by omega)).mono ?_; rintro e w1 ⟨rfl, hx⟩)
  go_ret
  exact ⟨by simp [txt], by assumption⟩
set_option maxHeartbeats 400000 in
theorem uintR_any (n : Int) (w : World) (h0 : 0 ≤ n) (h1 : n < 9223372036854775808) :
    Calls Tryz.prog 43 #[.int .i64 n] w fun e w' => e = .returned (.tuple #[.string (uvs n.toNat), .int .i64 0]) ∧ Ext w w' := by
  go_enter Tryz.func43, Tryz.ntmps43
  go_wp2_with (go_at_call 78; refine (unsignedR_int _ _ (by omega) (by omega)).mono ?_; rintro e w1 ⟨rfl, hx⟩)
  go_ret2
  exact ⟨rfl, by assumption⟩
theorem scanR_num (m b k : Nat) (hm : m < 128 ^ k) (hk : k ≤ 9) (hb : b < 256) (h9 : k = 9 → b ≤ 1) :
    IntKind.u64.wrap ((m : Int) + IntKind.u64.wrap ((b : Int) % 128 * 2 ^ (7 * k))) = ((m + b % 128 * 128 ^ k : Nat) : Int) := by
  obtain ⟨h1, h2, h3⟩ := or_digit m b k hm hk hb h9
  have e : ((b : Int) % 128 * 2 ^ (7 * k)) = ((b % 128 * 128 ^ k : Nat) : Int) := by rw [pow128]; simp
  rw [e, wrap_u _ rfl, show b % 128 * 128 ^ k % 2 ^ IntKind.u64.bits = b % 128 * 128 ^ k from Nat.mod_eq_of_lt h3, show (m : Int) + ((b % 128 * 128 ^ k : Nat) : Int) = ((m + b % 128 * 128 ^ k : Nat) : Int) by simp, wrap_u _ rfl, show (m + b % 128 * 128 ^ k) % 2 ^ IntKind.u64.bits = m + b % 128 * 128 ^ k from Nat.mod_eq_of_lt h1]
set_option maxRecDepth 100000 in
set_option maxHeartbeats 2000000 in
theorem scanR_any (s : ByteArray) (at_ : Nat) (w : World) (hs : s.size ≤ 1000000000) (ha : at_ ≤ 2000000000) :
    Calls Tryz.prog 98 #[.string s, .int .i64 at_] w fun e w' => e = .returned (scanV (scanF s at_)) ∧ w = w' := by
  go_enter Tryz.func98, Tryz.ntmps98
  go_wp2
  go_loop [7, 8] (fun n i => ∃ (k m fuel : Nat), n = .int .u64 m ∧ i = .int .i64 (k : Int) ∧ k ≤ 10 ∧ k + fuel = 11 ∧ m < 128 ^ k ∧ m < 18446744073709551616 ∧ scanL s at_ fuel k m = scanF s at_) (fun _ i => 100 - (intOf i).toNat)
  case atStart => exact ⟨0, 0, 11, rfl, rfl, by omega, by omega, by simp, by simp, rfl⟩
  case round =>
    obtain ⟨k, m, fuel, rfl, rfl, hk, hf, hm, hm2, hrec⟩ := hrel
    have HR := Hd.mk hrec; clear hrec
    have HM := Hd.mk hm; clear hm
    by_cases h2 : k < 10
    · by_cases h1 : at_ + k < s.size
      · have hg : (s[at_ + k]'h1).toNat = byt s (at_ + k) := byt_get s _ h1
        have hb := byt_lt s (at_ + k)
        obtain ⟨b, hbe⟩ : ∃ b, byt s (at_ + k) = b := ⟨_, rfl⟩
        rw [hbe] at hg hb
        have HE := Hd.mk hbe; clear hbe
        have hneg : decide ((at_ : Int) + (k : Int) < 0) = false := by simp; omega
        have hge : decide ((s.size : Int) ≤ (at_ : Int) + (k : Int)) = false := by simp; omega
        by_cases h3 : 9 ≤ k
        · have h3' : (((k : Nat) : Int) == 9) = true := by simp; omega
          by_cases h6 : 1 < b
          · have h6' : decide (1 < (b : Int)) = true := by simp; omega
            go_wp2
            go_ret3
            exact ⟨by rw [← HR.out, scanL_over (by omega) h1 (by omega) (by rw [HE.out]; exact h6)]; rfl, rfl⟩
          · have h6' : decide (1 < (b : Int)) = false := by simp; omega
            have hlt : b < 128 := by omega
            have h0 : (((k : Nat) : Int) == 0) = false := by simp; omega
            have HX := Hd.mk (scanR_num m b k HM.out (by omega) hb (by omega))
            go_wp2
            go_ret3
            refine ⟨?_, rfl⟩
            rw [← HR.out, scanL_last (by omega) h1 h2 (by rw [HE.out]; omega) (by rw [HE.out]; omega), HE.out]
            refine scanV_eq HX.out (by simp) (by rw [Bool.eq_iff_iff]; simp; omega)
        · have h3' : (((k : Nat) : Int) == 9) = false := by simp; omega
          have HX := Hd.mk (scanR_num m b k HM.out (by omega) hb (by omega))
          by_cases h4 : b < 128
          · by_cases h7 : 1 ≤ k
            · have h0 : (((k : Nat) : Int) == 0) = false := by simp; omega
              go_wp2
              go_ret3
              refine ⟨?_, rfl⟩
              rw [← HR.out, scanL_last (by omega) h1 h2 (by rw [HE.out]; omega) (by rw [HE.out]; omega), HE.out]
              exact scanV_eq HX.out (by simp) (by rw [Bool.eq_iff_iff]; simp; omega)
            · have h0 : (((k : Nat) : Int) == 0) = true := by simp; omega
              go_wp2
              go_ret3
              refine ⟨?_, rfl⟩
              rw [← HR.out, scanL_last (by omega) h1 h2 (by rw [HE.out]; omega) (by rw [HE.out]; omega), HE.out]
              exact scanV_eq HX.out (by simp) (by rw [Bool.eq_iff_iff]; simp; omega)
          · go_wp2
            go_round
            case rel =>
              obtain ⟨f, rfl⟩ : ∃ f, fuel = f + 1 := ⟨fuel - 1, by omega⟩
              have hp := pow_next m b k HM.out hb
              exact ⟨k + 1, m + b % 128 * 128 ^ k, f, by rw [HX.out], by go_num, by omega, by omega, hp, (or_digit m b k HM.out (by omega) hb (by omega)).1, by rw [← HR.out, scanL_more h1 h2 (by rw [HE.out]; omega) (by rw [HE.out]; omega), HE.out]⟩
            case measure => simp [intOf]; omega
      · have hneg : decide ((at_ : Int) + (k : Int) < 0) = false := by simp; omega
        have hge : decide ((s.size : Int) ≤ (at_ : Int) + (k : Int)) = true := by simp; omega
        go_wp2
        go_ret3
        exact ⟨by rw [← HR.out, scanL_end (by omega) (by omega)]; rfl, rfl⟩
    · go_wp2
      go_ret3
      exact ⟨by rw [← HR.out, scanL_end (by omega) (by omega)]; rfl, rfl⟩
end Go.Proofs.YtfofapggmoibkaaGreatDoor
namespace Go.Proofs.YtfofapggmoibkaaGreatDoor
open Go Go.RowKit

theorem scanR_at {s : ByteArray} {at_ : Nat} {a b : Nat} {c : Bool} (hr : scanF s at_ = (a, b, c)) (w : World) (hs : s.size ≤ 1000000000) (ha : at_ ≤ 2000000000) :
    Calls Tryz.prog 98 #[.string s, .int .i64 at_] w fun e w' => e = .returned (.tuple #[.int .u64 a, .int .i64 b, .bool c]) ∧ w = w' := by
  have h := scanR_any s at_ w hs ha
  rw [hr] at h
  exact h
set_option maxHeartbeats 400000 in
theorem readUint_ok {s : ByteArray} {at_ n next : Nat} (w : World) (hs : s.size ≤ 1000000000) (ha : at_ ≤ 2000000000) (H : Hd (sizeO s at_ = some (n, next))) :
    Calls Tryz.prog 62 #[.string s, .int .i64 at_] w fun e w' => e = .returned (.tuple #[.int .i64 n, .int .i64 next, .bool true]) ∧ w = w' := by
  have hlt := (sizeO_bound H.out).1
  have HS : Hd (scanF s at_ = (n, next, true)) := Hd.mk (by
    have h := H.out
    unfold sizeO at h
    split at h
    · rename_i h1
      simp only [Option.some.injEq, Prod.mk.injEq] at h
      rw [← h.1, ← h.2, ← h1.1]
    · cases h)
  clear H
  go_enter Tryz.func62, Tryz.ntmps62
  go_wp2_with (go_at_call 98; refine (scanR_at HS.out _ hs ha).mono ?_; rintro e _ ⟨rfl, rfl⟩)
  go_ret3
  exact ⟨ret_tup3 (vint (by try omega)) rfl rfl, rfl⟩
set_option maxHeartbeats 400000 in
theorem readUint_no {s : ByteArray} {at_ : Nat} (w : World) (hs : s.size ≤ 1000000000) (ha : at_ ≤ 2000000000) (H : Hd (sizeO s at_ = none)) :
    Calls Tryz.prog 62 #[.string s, .int .i64 at_] w fun e w' => e = .returned (.tuple #[.int .i64 0, .int .i64 0, .bool false]) ∧ w = w' := by
  obtain ⟨a, b, c, h⟩ : ∃ a b c, scanF s at_ = (a, b, c) := ⟨_, _, _, rfl⟩
  cases c with
  | false =>
    have HS := Hd.mk h; clear H h
    go_enter Tryz.func62, Tryz.ntmps62
    go_wp2_with (go_at_call 98; refine (scanR_at HS.out _ hs ha).mono ?_; rintro e _ ⟨rfl, rfl⟩)
    go_ret3
    exact ⟨rfl, rfl⟩
  | true =>
    have hge : 9223372036854775808 ≤ a := by
      have h1 := H.out
      unfold sizeO at h1
      rw [h] at h1
      rcases Nat.lt_or_ge a 9223372036854775808 with h2 | h2
      · rw [if_pos ⟨rfl, h2⟩] at h1; cases h1
      · exact h2
    have HS := Hd.mk h; clear H h
    go_enter Tryz.func62, Tryz.ntmps62
    go_wp2_with (go_at_call 98; refine (scanR_at HS.out _ hs ha).mono ?_; rintro e _ ⟨rfl, rfl⟩)
    go_ret3
    exact ⟨rfl, rfl⟩
set_option maxHeartbeats 400000 in
theorem readText_ok {s x : ByteArray} {at_ next : Nat} (w : World) (hs : s.size ≤ 1000000000) (ha : at_ ≤ 2000000000) (H : Hd (textO s at_ = some (x, next))) :
    Calls Tryz.prog 63 #[.string s, .int .i64 at_] w fun e w' => e = .returned (.tuple #[.string x, .int .i64 next, .bool true]) ∧ w = w' := by
  cases ho : sizeO s at_ with
  | none => have := H.out; unfold textO at this; rw [ho] at this; cases this
  | some r =>
    obtain ⟨n, nx⟩ := r
    have hb := sizeO_bound ho
    have h1 := H.out
    unfold textO at h1
    rw [ho] at h1
    simp only at h1
    split at h1
    · rename_i hle
      simp only [Option.some.injEq, Prod.mk.injEq] at h1
      have HO := Hd.mk ho
      have H1 := Hd.mk h1
      clear ho h1 H
      go_enter Tryz.func63, Tryz.ntmps63
      go_wp2_with (go_at_call 62; refine (readUint_ok _ hs ha HO).mono ?_; rintro e _ ⟨rfl, rfl⟩)
      go_ret3
      exact ⟨ret_tup3 (vstr H1.out.1) (vint (by have := H1.out.2; omega)) rfl, rfl⟩
    · cases h1
set_option maxHeartbeats 400000 in
theorem readText_no {s : ByteArray} {at_ : Nat} (w : World) (hs : s.size ≤ 1000000000) (ha : at_ ≤ 2000000000) (H : Hd (textO s at_ = none)) :
    Calls Tryz.prog 63 #[.string s, .int .i64 at_] w fun e w' => e = .returned (.tuple #[.string ⟨#[]⟩, .int .i64 0, .bool false]) ∧ w = w' := by
  cases ho : sizeO s at_ with
  | none =>
    have HO := Hd.mk ho; clear ho
    go_enter Tryz.func63, Tryz.ntmps63
    go_wp2_with (go_at_call 62; refine (readUint_no _ hs ha HO).mono ?_; rintro e _ ⟨rfl, rfl⟩)
    go_ret3
    exact ⟨rfl, rfl⟩
  | some r =>
    obtain ⟨n, nx⟩ := r
    have hb := sizeO_bound ho
    have hgt : s.size - nx < n := by
      have h1 := H.out
      unfold textO at h1
      rw [ho] at h1
      simp only at h1
      split at h1
      · cases h1
      · omega
    have HO := Hd.mk ho
    clear ho H
    go_enter Tryz.func63, Tryz.ntmps63
    go_wp2_with (go_at_call 62; refine (readUint_ok _ hs ha HO).mono ?_; rintro e _ ⟨rfl, rfl⟩)
    go_ret3
    exact ⟨rfl, rfl⟩

/-! lists -/
def catT (l : List ByteArray) (z : ByteArray) : ByteArray := l.foldl (fun a x => a ++ txt x) z
def textsB (l : List ByteArray) : ByteArray := catT l (uvs l.length)
theorem catT_snoc (l : List ByteArray) (x z : ByteArray) : catT (l ++ [x]) z = catT l z ++ txt x := by simp [catT]
theorem catT_size (B : Nat) (hB : B ≤ 1000000) : ∀ (l : List ByteArray) (z : ByteArray), (∀ x ∈ l, x.size ≤ B) → (catT l z).size ≤ z.size + l.length * (B + 10)
  | [], z, _ => by simp [catT]
  | x :: l, z, h => by
    have h1 := catT_size B hB l (z ++ txt x) (fun y hy => h y (by simp [hy]))
    have h2 := txt_size x (by have := h x (by simp); omega)
    have h3 := h x (by simp)
    have e : catT (x :: l) z = catT l (z ++ txt x) := rfl
    rw [e]
    rw [ByteArray.size_append] at h1
    rw [List.length_cons, Nat.succ_mul]
    omega
theorem take_snoc {α : Type} {l : List α} {k : Nat} {x : α} (h : l[k]? = some x) : l.take (k + 1) = l.take k ++ [x] := by
  rw [List.take_add_one, h]; rfl
/-- the slices' values of this file are .slice A l.length c with StrsAt -/
structure SlA (w : World) (A : Option Addr) (c : Nat) (l : List ByteArray) : Prop where
  cap : l.length ≤ c
  at_ : StrsAt w A l
set_option maxRecDepth 100000 in
set_option maxHeartbeats 1000000 in
theorem textsR_any (l : List ByteArray) (A : Option Addr) (c : Nat) (w : World) (hl : l.length ≤ 10000) (hB : ∀ x ∈ l, x.size ≤ 100000) (hA : StrsAt w A l) :
    Calls Tryz.prog 44 #[.slice A l.length c] w fun e w' => e = .returned (.string (textsB l)) ∧ Ext w w' := by
  have HA := Hd.mk hA; have HB := Hd.mk hB; clear hA hB
  have hu := uvs_size l.length (by omega)
  have HU := Hd.mk hu; clear hu
  go_enter Tryz.func44, Tryz.ntmps44
  go_wp2_with (go_at_call 78; refine (unsignedR_int _ _ (by omega) (by omega)).mono ?_; rintro e w1 ⟨rfl, hx1⟩)
  have HX1 := Hd.mk hx1; clear hx1
  go_loopw [3, 4] (fun o i wr => ∃ (k : Nat), i = .int .i64 (k : Int) ∧ k ≤ l.length ∧ o = .string (catT (l.take k) (uvs l.length)) ∧ Ext w wr) (fun _ i _ => l.length - (intOf i).toNat)
  case atStart => exact ⟨0, rfl, by omega, by simp [catT], HX1.out⟩
  case round =>
    obtain ⟨k, rfl, hk, rfl, hext⟩ := hrel
    by_cases hlt : k < l.length
    · have hgk : l[k]? = some l[k] := List.getElem?_eq_getElem hlt
      have hxz : l[k].size ≤ 100000 := HB.out _ (List.getElem_mem hlt)
      have hcz := catT_size 100000 (by omega) (l.take k) (uvs l.length) (fun x hx => HB.out x (List.mem_of_mem_take hx))
      rw [List.length_take, Nat.min_eq_left hk] at hcz
      have hcz2 : (catT (l.take k) (uvs l.length)).size ≤ 2000000000 := by have := HU.out; omega
      have hsn : catT (l.take (k + 1)) (uvs l.length) = catT (l.take k) (uvs l.length) ++ txt l[k] := by rw [take_snoc hgk, catT_snoc]
      obtain ⟨b, o, hix, hcell⟩ := (HA.out.ext hext).get 22 9 Tryz.underlying22 Tryz.sizeOf9 l.length c k rfl hgk
      generalize l[k] = x at *
      generalize catT (l.take k) (uvs l.length) = acc at *
      have htz := txt_size x (by omega)
      have HSN := Hd.mk hsn; clear hsn hgk hcz
      have hix' := hix wr
      clear hix
      go_wp2_with (go_at_call 45; refine (textR_any _ _ (by omega)).mono ?_; rintro e w2 ⟨rfl, hx2⟩)
      go_roundw
      case rel => exact ⟨k + 1, by go_num, by omega, by rw [HSN.out], hext.trans (by assumption)⟩
      case measure => simp only [intOf]; omega
    · obtain rfl : k = l.length := by omega
      go_wp2
      go_ret
      exact ⟨ret_str (by rw [List.take_length]; rfl), hext⟩
end Go.Proofs.YtfofapggmoibkaaGreatDoor
namespace Go.Proofs.YtfofapggmoibkaaGreatDoor
open Go Go.RowKit

/-- what ReadTexts hands back -/
def TextsPostR (w : World) (r : Option (List ByteArray × Nat)) (e : Ending) (w' : World) : Prop :=
  Ext w w' ∧ match r with
  | some (l, next) => ∃ A c, StrsAt w' A l ∧ l.length ≤ c ∧ FreshV w.heap.size (.slice A l.length c) ∧ e = .returned (.tuple #[.slice A l.length c, .int .i64 next, .bool true])
  | none => e = .returned (.tuple #[.slice none 0 0, .int .i64 0, .bool false])
theorem SlS.form {w : World} {v : Value} {l : List ByteArray} (h : SlS w v l) : ∃ A c, v = .slice A l.length c ∧ l.length ≤ c ∧ StrsAt w A l := h

set_option maxRecDepth 100000 in
set_option maxHeartbeats 1000000 in
theorem readTexts_fn {s : ByteArray} {at_ : Nat} (w : World) (hs : s.size ≤ 900000) (ha : at_ ≤ 2000000000) {n next : Nat} (HO : Hd (sizeO s at_ = some (n, next))) (hn : n ≤ s.size - next) :
    Calls Tryz.prog 90 #[.string s, .int .i64 at_] w (TextsPostR w (textsL s n next)) := by
  have hm : next ≤ s.size := (sizeO_bound HO.out).2.2
  go_enter Tryz.func90, Tryz.ntmps90
  go_wp2_with (first | (go_at_call 62; refine (readUint_ok _ (by omega) ha HO).mono ?_; rintro e _ ⟨rfl, rfl⟩))
  go_loopw [8, 10, 11] (fun a v i wr => ∃ (l : List ByteArray) (at1 : Nat), a = .int .i64 at1 ∧ i = .int .i64 (l.length : Int) ∧ l.length ≤ n ∧ at1 ≤ s.size ∧ restO s l (n - l.length) at1 = textsL s n next ∧
      wr.ownsRow w.heap.size 9 1 v l.length (strs l) ∧ Ext w wr) (fun _ _ i _ => n - (intOf i).toNat)
  case atStart => exact ⟨[], next, rfl, rfl, by simp, hm, by simp [restO], by simpa [strs] using own_empty w _ _ (Nat.le_refl _), (Ext.refl w).alloc _⟩
  case round =>
    obtain ⟨l, at1, rfl, rfl, hl, hat, hrest, hown, hext⟩ := hrel
    have HR := Hd.mk hrest; clear hrest
    have hb0 := hext.size
    have hlb : l.length ≤ 1000000 := by omega
    by_cases hlt : l.length < n
    · cases ht : textO s at1 with
      | none =>
        have HT := Hd.mk ht; clear ht
        go_wp2_with (first | (go_at_call 63; refine (readText_no _ (by omega) (by omega) HT).mono ?_; rintro e _ ⟨rfl, rfl⟩))
        go_ret3
        have hz : textsL s n next = none := by
          rw [← HR.out]
          obtain ⟨k, hk⟩ : ∃ k, n - l.length = k + 1 := ⟨n - l.length - 1, by omega⟩
          rw [hk, restO_no HT.out]
        rw [hz]
        exact ⟨hext, rfl⟩
      | some r =>
        obtain ⟨x, nx⟩ := r
        have hbn := textO_bound ht
        have HT := Hd.mk ht; clear ht
        go_wp2_with (first | (go_at_call 63; refine (readText_ok _ (by omega) (by omega) HT).mono ?_; rintro e _ ⟨rfl, rfl⟩) | (at_builtin; go_must (refine app1 w.heap.size rfl _ _ 22 9 (.string ⟨#[]⟩) 16 rfl Tryz.underlying22 info_str rfl hown rfl rfl rfl hb0 hlb (by decide) ?_); intro v1 w1 hown1 hg1 hat1))
        go_roundw
        case rel =>
          refine ⟨l ++ [x], nx, rfl, vint (by simp), by rw [List.length_append, List.length_singleton]; omega, hbn.2.1, ?_, ?_, hext.grown hg1 (own_base hown)⟩
          · rw [← HR.out]
            obtain ⟨k, hk⟩ : ∃ k, n - l.length = k + 1 := ⟨n - l.length - 1, by omega⟩
            rw [hk, restO_step HT.out, List.length_append, List.length_singleton, show n - (l.length + 1) = k by omega]
          · rw [strs_snoc] at hown1
            simpa using hown1
        case measure => simp only [intOf]; omega
    · obtain rfl : n = l.length := by omega
      have hz : textsL s l.length next = some (l, at1) := by
        rw [← HR.out, Nat.sub_self, restO_all]
      have hfv := FreshV.own hown
      obtain ⟨A, c, rfl, hc, hA⟩ := (SlS.own hown).form
      have HFV := Hd.mk hfv; clear hfv
      have HZ := Hd.mk hz; clear hz
      go_wp2
      go_ret3
      rw [HZ.out]
      exact ⟨hext, A, c, hA, hc, HFV.out, rfl⟩
set_option maxRecDepth 100000 in
set_option maxHeartbeats 1000000 in
theorem readTexts_any {s : ByteArray} {at_ : Nat} (w : World) (hs : s.size ≤ 900000) (ha : at_ ≤ 2000000000) :
    Calls Tryz.prog 90 #[.string s, .int .i64 at_] w (TextsPostR w (textsO s at_)) := by
  unfold textsO
  cases ho : sizeO s at_ with
  | none =>
    have HO := Hd.mk ho; clear ho
    go_enter Tryz.func90, Tryz.ntmps90
    go_wp2_with (first | (go_at_call 62; refine (readUint_no _ (by omega) ha HO).mono ?_; rintro e _ ⟨rfl, rfl⟩))
    go_ret3
    exact ⟨Ext.refl _, rfl⟩
  | some r =>
    obtain ⟨n, next⟩ := r
    have hm : next ≤ s.size := (sizeO_bound ho).2.2
    have hnb := (sizeO_bound ho).1
    have HO := Hd.mk ho; clear ho
    by_cases hn : n ≤ s.size - next
    · simp only [hn, if_true]
      exact readTexts_fn w hs ha HO hn
    · simp only [hn, if_false]
      go_enter Tryz.func90, Tryz.ntmps90
      go_wp2_with (first | (go_at_call 62; refine (readUint_ok _ (by omega) ha HO).mono ?_; rintro e _ ⟨rfl, rfl⟩))
      go_ret3
      exact ⟨Ext.refl _, rfl⟩

/-! r46 -/
def digB (l : List ByteArray) : Bool := l.all fun x => x.size == 32
theorem isDigest_any (s : ByteArray) (w : World) : Calls Tryz.prog 106 #[.string s] w fun e w' => e = .returned (.bool (s.size == 32)) ∧ w = w' := by
  go_enter Tryz.func106, Tryz.ntmps106
  go_wp2
  go_ret
  exact ⟨congrArg Ending.returned (vbool (by rw [Bool.eq_iff_iff]; simp; omega)), rfl⟩
theorem isDigest_yes (s : ByteArray) (w : World) (h : Hd (s.size = 32)) : Calls Tryz.prog 106 #[.string s] w fun e w' => e = .returned (.bool true) ∧ w = w' := by
  have := isDigest_any s w
  rwa [show (s.size == 32) = true by simp [h.out]] at this
theorem isDigest_no (s : ByteArray) (w : World) (h : Hd (s.size ≠ 32)) : Calls Tryz.prog 106 #[.string s] w fun e w' => e = .returned (.bool false) ∧ w = w' := by
  have := isDigest_any s w
  rwa [show (s.size == 32) = false by simp [h.out]] at this
set_option maxRecDepth 100000 in
set_option maxHeartbeats 1000000 in
theorem digests_any (l : List ByteArray) (A : Option Addr) (c : Nat) (w : World) (hl : l.length ≤ 9223372036854775807) (hA : StrsAt w A l) :
    Calls Tryz.prog 77 #[.slice A l.length c] w fun e w' => e = .returned (.bool (digB l)) ∧ w = w' := by
  have HA := Hd.mk hA; clear hA
  go_enter Tryz.func77, Tryz.ntmps77
  go_wp2
  go_loop [3] (fun i => ∃ (k : Nat), i = .int .i64 (k : Int) ∧ k ≤ l.length ∧ Hd (digB (l.take k) = true)) (fun i => l.length - (intOf i).toNat)
  case atStart => exact ⟨0, rfl, by omega, ⟨rfl⟩⟩
  case round =>
    obtain ⟨k, rfl, hk, hd⟩ := hrel
    by_cases hlt : k < l.length
    · have hgk : l[k]? = some l[k] := List.getElem?_eq_getElem hlt
      obtain ⟨b, o, hix, hcell⟩ := (HA.out).get 22 9 Tryz.underlying22 Tryz.sizeOf9 l.length c k rfl hgk
      have hix' := hix w
      clear hix
      have hmem := List.getElem_mem hlt
      generalize l[k] = x at *
      have HG := Hd.mk hgk; have HM := Hd.mk hmem; clear hgk hmem
      by_cases hx : x.size = 32
      · have HX := Hd.mk hx; clear hx
        go_wp2_with (go_at_call 106; refine (isDigest_yes _ _ HX).mono ?_; rintro e _ ⟨rfl, rfl⟩)
        go_round
        case rel => exact ⟨k + 1, by go_num, by omega, ⟨by have := hd.out; rw [take_snoc HG.out]; simp [digB] at this ⊢; exact ⟨this, HX.out⟩⟩⟩
        case measure => simp only [intOf]; omega
      · have HX := Hd.mk hx; clear hx
        go_wp2_with (go_at_call 106; refine (isDigest_no _ _ HX).mono ?_; rintro e _ ⟨rfl, rfl⟩)
        go_ret
        refine ⟨congrArg Ending.returned (vbool ?_), rfl⟩
        symm
        rw [digB, List.all_eq_false]
        exact ⟨x, HM.out, by simpa using HX.out⟩
    · obtain rfl : k = l.length := by omega
      go_wp2
      go_ret
      exact ⟨congrArg Ending.returned (vbool (by have := hd.out; rw [List.take_length] at this; exact this.symm)), rfl⟩
end Go.Proofs.YtfofapggmoibkaaGreatDoor
namespace Go.Proofs.YtfofapggmoibkaaGreatDoor
open Go Go.RowKit

/-- function f answers p -/
def Answers (w : World) (f : Nat) (p : ByteArray → Bool) (l : List ByteArray) : Prop :=
  (∀ args w, (callFunc f args).run Tryz.prog w = .ok (.enter f args) w) ∧ ∀ x ∈ l, ∀ w', Ext w w' → Calls Tryz.prog f #[.string x] w' fun e w'' => e = .returned (.bool (p x)) ∧ Ext w' w''
set_option maxRecDepth 100000 in
set_option maxHeartbeats 1000000 in
theorem indexFunc_any (f : Nat) (p : ByteArray → Bool) (l : List ByteArray) (A : Option Addr) (c : Nat) (w : World) (hl : l.length ≤ 9223372036854775807) (hA : StrsAt w A l) (hf : Answers w f p l) :
    Calls Tryz.prog 105 #[.slice A l.length c, .func (.func f) #[] #[]] w fun e w' => (∃ n : Int, e = .returned (.int .i64 n) ∧ decide (0 ≤ n) = l.any p) ∧ Ext w w' := by
  have HA := Hd.mk hA; clear hA
  have hcf := hf.1
  have HF := Hd.mk hf.2; clear hf
  go_enter Tryz.func105, Tryz.ntmps105
  go_wp2
  go_loopw [8] (fun i wr => ∃ (k : Nat), i = .int .i64 (k : Int) ∧ k ≤ l.length ∧ Hd ((l.take k).any p = false) ∧ Ext w wr) (fun i _ => l.length - (intOf i).toNat)
  case atStart => exact ⟨0, rfl, by omega, ⟨rfl⟩, Ext.refl w⟩
  case round =>
    obtain ⟨k, rfl, hk, hd, hext⟩ := hrel
    by_cases hlt : k < l.length
    · have hgk : l[k]? = some l[k] := List.getElem?_eq_getElem hlt
      obtain ⟨b, o, hix, hcell⟩ := (HA.out.ext hext).get 22 9 Tryz.underlying22 Tryz.sizeOf9 l.length c k rfl hgk
      have hix' := hix wr
      clear hix
      have hmem := List.getElem_mem hlt
      generalize l[k] = x at *
      have HG := Hd.mk hgk; have HM := Hd.mk hmem; clear hgk hmem
      have HP := Hd.mk (HF.out x HM.out wr hext)
      cases hp : p x with
      | false =>
        rw [hp] at HP
        have HX := Hd.mk hp; clear hp
        go_wp2_with fail
        refine HP.out.mono ?_; rintro e w1 ⟨rfl, hx1⟩
        go_wp2
        go_roundw
        case rel => exact ⟨k + 1, by go_num, by omega, ⟨by have := hd.out; rw [take_snoc HG.out, List.any_append, this]; simp [HX.out]⟩, hext.trans hx1⟩
        case measure => simp only [intOf]; omega
      | true =>
        rw [hp] at HP
        have HX := Hd.mk hp; clear hp
        go_wp2_with fail
        refine HP.out.mono ?_; rintro e w1 ⟨rfl, hx1⟩
        go_wp2
        go_ret
        refine ⟨⟨_, rfl, ?_⟩, hext.trans hx1⟩
        have : l.any p = true := List.any_eq_true.2 ⟨x, HM.out, HX.out⟩
        rw [this]; simp
    · obtain rfl : k = l.length := by omega
      go_wp2
      go_ret
      refine ⟨⟨_, rfl, ?_⟩, hext⟩
      have := hd.out
      rw [List.take_length] at this
      rw [this]; rfl
theorem containsFunc_any (f : Nat) (p : ByteArray → Bool) (l : List ByteArray) (A : Option Addr) (c : Nat) (w : World) (hl : l.length ≤ 9223372036854775807) (hA : StrsAt w A l) (hf : Answers w f p l) :
    Calls Tryz.prog 71 #[.slice A l.length c, .func (.func f) #[] #[]] w fun e w' => e = .returned (.bool (l.any p)) ∧ Ext w w' := by
  have HF := Hd.mk hf; clear hf
  have HA := Hd.mk hA; clear hA
  go_enter Tryz.func71, Tryz.ntmps71
  go_wp2_with fail
  refine (indexFunc_any f p l A c _ hl HA.out HF.out).mono ?_; rintro e w1 ⟨⟨n, rfl, hn⟩, hx1⟩
  have HN := Hd.mk hn; clear hn
  go_wp2
  go_ret
  exact ⟨by rw [← HN.out]; rfl, hx1⟩
theorem valid1_any (s : ByteArray) (w : World) : Calls Tryz.prog 72 #[.string s] w fun e w' => e = .returned (.bool (s.size != 32)) ∧ Ext w w' := by
  go_enter Tryz.func72, Tryz.ntmps72
  go_wp2
  go_ret
  exact ⟨congrArg Ending.returned (vbool (by rw [Bool.eq_iff_iff]; simp; omega)), Ext.refl w⟩
theorem digB_any (l : List ByteArray) : l.any (fun s => s.size != 32) = !digB l := by
  rw [digB, List.not_all_eq_any_not]
  rfl
set_option maxRecDepth 100000 in
theorem containsBad_any (l : List ByteArray) (A : Option Addr) (c : Nat) (w : World) (hl : l.length ≤ 9223372036854775807) (hA : StrsAt w A l) :
    Calls Tryz.prog 71 #[.slice A l.length c, .func (.func 72) #[] #[]] w fun e w' => e = .returned (.bool (!digB l)) ∧ Ext w w' := by
  rw [← digB_any]
  refine containsFunc_any 72 _ l A c w hl hA ⟨?_, fun x _ w' _ => valid1_any x w'⟩
  intro args w
  rfl
end Go.Proofs.YtfofapggmoibkaaGreatDoor
namespace Go.Proofs.YtfofapggmoibkaaGreatDoor
open Go Go.RowKit

theorem Bld.ext {w w' : World} {B b : Nat} {l : List UInt8} (h : Bld w B b l) (hx : Ext w w') : Bld w' B b l := by
  have key : ∀ p, Lib.BuilderAt 79 5 B b p (Lib.byteCells l) w → Lib.BuilderAt 79 5 B b p (Lib.byteCells l) w' := by
    rintro p ⟨h1, v, h2, h3, h4⟩
    exact ⟨h1, v, hx.obj h2, h3.kept (grown_of_ext hx none) (by cases hv : v.ownBlock <;> simp), h4⟩
  rcases h with h | h
  · exact .inl (key _ h)
  · exact .inr (key _ h)
theorem Ext.trans' {a b c : World} (h : Ext a b) (k : Below a.heap.size b c) : Ext a c := Below.trans h k
theorem ba_app (a b : ByteArray) : a.data.toList ++ b.data.toList = (a ++ b).data.toList := by simp
set_option maxRecDepth 100000 in
set_option maxHeartbeats 1000000 in
theorem texts1_any (B b : Nat) (acc : List UInt8) (s : ByteArray) (w : World) (h : Bld w B b acc) (hlen : acc.length ≤ 10000000000) (hs : s.size ≤ 10000000000) (hBw : B ≤ w.heap.size) :
    Calls Tryz.prog 76 #[.string s, .pointer (some ⟨b, 0, none⟩)] w fun e w' => e = .returned (.tuple #[]) ∧ Bld w' B b (acc ++ s.data.toList) ∧ KeepB B b w w' := by
  have H := Hd.mk h; clear h
  go_enter Tryz.func76, Tryz.ntmps76
  go_wp2_with fail
  refine (writeString B b acc s _ H.out hlen hs hBw).mono ?_; rintro e w1 ⟨rfl, h1, h2⟩
  go_wp2
  go_end0
  exact ⟨rfl, h1, h2⟩
set_option maxRecDepth 100000 in
set_option maxHeartbeats 2000000 in
theorem each_any (l : List ByteArray) (z : ByteArray) (A : Option Addr) (c b : Nat) (w0 w : World) (hl : l.length ≤ 10000) (hz : z.size ≤ 1000) (hB : ∀ x ∈ l, x.size ≤ 100000) (hA : StrsAt w0 A l) (hx : Ext w0 w) (h : Bld w w0.heap.size b z.data.toList) :
    Calls Tryz.prog 75 #[.slice A l.length c, .func (.func 41) #[] #[], .func (.func 76) #[] #[.pointer (some ⟨b, 0, none⟩)]] w fun e w' => e = .returned (.tuple #[]) ∧ Bld w' w0.heap.size b (catT l z).data.toList ∧ Ext w0 w' := by
  have HA := Hd.mk hA; have HB := Hd.mk hB; clear hA hB
  have HX := Hd.mk hx; have H := Hd.mk h; clear hx h
  go_enter Tryz.func75, Tryz.ntmps75
  go_wp2
  go_loopw [10] (fun i wr => ∃ (k : Nat), i = .int .i64 (k : Int) ∧ k ≤ l.length ∧ Bld wr w0.heap.size b (catT (l.take k) z).data.toList ∧ Ext w0 wr) (fun i _ => l.length - (intOf i).toNat)
  case atStart => exact ⟨0, rfl, by omega, by simpa [catT] using H.out, HX.out⟩
  case round =>
    obtain ⟨k, rfl, hk, hbl, hext⟩ := hrel
    by_cases hlt : k < l.length
    · have hgk : l[k]? = some l[k] := List.getElem?_eq_getElem hlt
      have hxz : l[k].size ≤ 100000 := HB.out _ (List.getElem_mem hlt)
      have hcz := catT_size 100000 (by omega) (l.take k) z (fun x hx => HB.out x (List.mem_of_mem_take hx))
      rw [List.length_take, Nat.min_eq_left hk] at hcz
      have hcz2 : (catT (l.take k) z).data.toList.length ≤ 2000000000 := by rw [data_len]; omega
      have hsn : catT (l.take (k + 1)) z = catT (l.take k) z ++ txt l[k] := by rw [take_snoc hgk, catT_snoc]
      obtain ⟨b', o, hix, hcell⟩ := (HA.out.ext hext).get 22 9 Tryz.underlying22 Tryz.sizeOf9 l.length c k rfl hgk
      generalize l[k] = x at *
      generalize catT (l.take k) z = acc at *
      have htz := txt_size x (by omega)
      have HSN := Hd.mk hsn; have HBL := Hd.mk hbl; clear hsn hgk hcz hbl
      have hix' := hix wr
      clear hix
      go_wp2_with fail
      refine (text_any x _ (by omega)).mono ?_; rintro e w1 ⟨rfl, hx1⟩
      have HX1 := Hd.mk (hext.trans hx1)
      have HB1 := Hd.mk (HBL.out.ext hx1)
      have hs1 := HX1.out.size
      clear hx1
      go_wp2_with fail
      refine (texts1_any w0.heap.size b acc.data.toList (txt x) _ HB1.out (by omega) (by omega) hs1).mono ?_; rintro e w2 ⟨rfl, h2, h3⟩
      rw [ba_app, ← HSN.out] at h2
      go_wp2
      go_roundw
      case rel => exact ⟨k + 1, by go_num, by omega, h2, HX1.out.trans' h3.below⟩
      case measure => simp only [intOf]; omega
    · obtain rfl : k = l.length := by omega
      go_wp2
      go_end0
      exact ⟨rfl, by rw [List.take_length] at hbl; exact hbl, hext⟩
set_option maxRecDepth 100000 in
set_option maxHeartbeats 2000000 in
theorem textsP_any (l : List ByteArray) (A : Option Addr) (c : Nat) (w : World) (hl : l.length ≤ 10000) (hB : ∀ x ∈ l, x.size ≤ 100000) (hA : StrsAt w A l) :
    Calls Tryz.prog 40 #[.slice A l.length c] w fun e w' => e = .returned (.string (textsB l)) ∧ Ext w w' := by
  have HA := Hd.mk hA; have HB := Hd.mk hB; clear hA hB
  have hu := uvs_size l.length (by omega)
  go_enter Tryz.func40, Tryz.ntmps40
  go_wp2_with fail
  have hb0 : Bld (w.alloc (.cells #[.pointer none, .slice none 0 0] 79)) w.heap.size w.heap.size [] := Lib.fresh_isBuilder _ _ w
  have HX0 := Hd.mk ((Ext.refl w).alloc (.cells #[.pointer none, .slice none 0 0] 79))
  refine (unsigned_int _ _ (by omega) (by omega)).mono ?_; rintro e w1 ⟨rfl, hx1⟩
  have HX1 := Hd.mk (HX0.out.trans hx1)
  have HB1 := Hd.mk (hb0.ext hx1)
  have hs1 := HX1.out.size
  clear hx1 hb0
  go_wp2_with fail
  refine (writeString w.heap.size w.heap.size [] (uvs l.length) _ HB1.out (by simp) (by omega) hs1).mono ?_; rintro e w2 ⟨rfl, h2, h3⟩
  rw [List.nil_append] at h2
  have HX2 := Hd.mk (HX1.out.trans' h3.below); clear h3
  go_wp2_with fail
  refine (each_any l (uvs l.length) A c w.heap.size w _ hl (by omega) HB.out HA.out HX2.out h2).mono ?_; rintro e w3 ⟨rfl, h4, h5⟩
  have hs3 := h5.size
  have HX3 := Hd.mk h5; clear h5 h2
  go_wp2_with fail
  refine (Tryz.Builder_String_any w.heap.size w.heap.size _ _ h4 hs3).mono ?_; rintro e w4 ⟨rfl, h6⟩
  go_wp2
  go_ret
  exact ⟨rfl, HX3.out.trans' h6⟩
end Go.Proofs.YtfofapggmoibkaaGreatDoor
namespace Go.Proofs.YtfofapggmoibkaaGreatDoor
open Go Go.RowKit

structure Obj where
  kind : Int
  refs : List ByteArray
  data : ByteArray
def validB (o : Obj) : Bool := decide (0 ≤ o.kind) && decide (o.kind ≤ 15) && decide (o.refs.length ≤ 64) && decide (o.data.size ≤ 65536) && digB o.refs
def encB (o : Obj) : ByteArray := uvs o.kind.toNat ++ textsB o.refs ++ txt o.data
structure Obj.Ok (o : Obj) : Prop where
  k0 : 0 ≤ o.kind
  k1 : o.kind ≤ 15
  n : o.refs.length ≤ 64
  d : o.data.size ≤ 65536
  r : ∀ x ∈ o.refs, x.size = 32
theorem validB_ok {o : Obj} (h : validB o = true) : o.Ok := by
  simp only [validB, Bool.and_eq_true, decide_eq_true_eq] at h
  obtain ⟨⟨⟨⟨h1, h2⟩, h3⟩, h4⟩, h5⟩ := h
  exact ⟨h1, h2, h3, h4, fun x hx => by simpa using List.all_eq_true.1 h5 x hx⟩
theorem textsB_size (l : List ByteArray) (hl : l.length ≤ 100) (hr : ∀ x ∈ l, x.size = 32) : (textsB l).size ≤ 10000 := by
  have h1 := catT_size 32 (by omega) l (uvs l.length) (fun x hx => by rw [hr x hx]; exact Nat.le_refl _)
  have h2 := uvs_size l.length (by omega)
  rw [textsB]; omega
theorem encB_size {o : Obj} (h : o.Ok) : (encB o).size ≤ 100000 := by
  have h1 := textsB_size o.refs (by have := h.n; omega) h.r
  have h2 := uvs_size o.kind.toNat (by have := h.k1; omega)
  have h3 := txt_size o.data (by have := h.d; omega)
  have := h.d
  rw [encB, ByteArray.size_append, ByteArray.size_append]; omega
set_option maxRecDepth 100000 in
set_option maxHeartbeats 1000000 in
theorem valid_any (o : Obj) (A : Option Addr) (c : Nat) (w : World) (hl : o.refs.length ≤ 9223372036854775807) (hd : o.data.size ≤ 9223372036854775807) (hA : StrsAt w A o.refs) :
    Calls Tryz.prog 38 #[.agg #[.int .i64 o.kind, .slice A o.refs.length c, .string o.data]] w fun e w' => e = .returned (.bool (validB o)) ∧ Ext w w' := by
  obtain ⟨k, l, d⟩ := o
  simp only at *
  have HA := Hd.mk hA; clear hA
  have HE := Hd.mk ((Ext.refl w).alloc (.cells #[.int .i64 k, .slice A l.length c, .string d] 24))
  by_cases h1 : 0 ≤ k
  · by_cases h2 : k ≤ 15
    · by_cases h3 : l.length ≤ 64
      · by_cases h4 : d.size ≤ 65536
        · go_enter Tryz.func38, Tryz.ntmps38
          go_wp2_with fail
          refine (containsBad_any l A c _ hl (HA.out.ext HE.out)).mono ?_; rintro e w1 ⟨rfl, hx1⟩
          go_wp2
          go_ret
          exact ⟨congrArg Ending.returned (vbool (by simp [validB, h1, h2, h3, h4])), HE.out.trans hx1⟩
        · go_enter Tryz.func38, Tryz.ntmps38
          go_wp2_with fail
          go_ret
          exact ⟨congrArg Ending.returned (vbool (by simp [validB, h1, h2, h3, h4])), HE.out⟩
      · go_enter Tryz.func38, Tryz.ntmps38
        go_wp2_with fail
        go_ret
        exact ⟨congrArg Ending.returned (vbool (by simp [validB, h1, h2, h3])), HE.out⟩
    · go_enter Tryz.func38, Tryz.ntmps38
      go_wp2_with fail
      go_ret
      exact ⟨congrArg Ending.returned (vbool (by simp [validB]; intros; omega)), HE.out⟩
  · go_enter Tryz.func38, Tryz.ntmps38
    go_wp2_with fail
    go_ret
    exact ⟨congrArg Ending.returned (vbool (by simp [validB]; intros; omega)), HE.out⟩
theorem valid_is (o : Obj) (b : Bool) (H : Hd (validB o = b)) (A : Option Addr) (c : Nat) (w : World) (hl : o.refs.length ≤ 9223372036854775807) (hd : o.data.size ≤ 9223372036854775807) (hA : StrsAt w A o.refs) :
    Calls Tryz.prog 38 #[.agg #[.int .i64 o.kind, .slice A o.refs.length c, .string o.data]] w fun e w' => e = .returned (.bool b) ∧ Ext w w' := by
  rw [← H.out]; exact valid_any o A c w hl hd hA
set_option maxRecDepth 100000 in
set_option maxHeartbeats 1000000 in
theorem objNumber_any (n : Int) (w : World) (h0 : 0 ≤ n) (h1 : n < 9223372036854775808) : Calls Tryz.prog 39 #[.int .i64 n] w fun e w' => e = .returned (.string (uvs n.toNat)) ∧ Ext w w' := by
  go_enter Tryz.func39, Tryz.ntmps39
  go_wp2_with fail
  refine (uint_any n _ h0 h1).mono ?_; rintro e w1 ⟨rfl, hx⟩
  go_wp2
  go_ret
  exact ⟨rfl, hx⟩
/-- what Encode hands back -/
def encR (o : Obj) : Value := if validB o then .tuple #[.string (encB o), .int .i64 0] else .tuple #[.string ⟨#[]⟩, .int .i64 1]
set_option maxRecDepth 100000 in
set_option maxHeartbeats 2000000 in
theorem encode_any (o : Obj) (A : Option Addr) (c : Nat) (w : World) (hl : o.refs.length ≤ 9223372036854775807) (hd : o.data.size ≤ 9223372036854775807) (hA : StrsAt w A o.refs) :
    Calls Tryz.prog 11 #[.agg #[.int .i64 o.kind, .slice A o.refs.length c, .string o.data]] w fun e w' => e = .returned (encR o) ∧ Ext w w' := by
  have HA := Hd.mk hA; clear hA
  have HE := Hd.mk ((Ext.refl w).alloc (.cells #[.int .i64 o.kind, .slice A o.refs.length c, .string o.data] 24))
  cases hv : validB o with
  | false =>
    have HV := Hd.mk hv; clear hv
    go_enter Tryz.func11, Tryz.ntmps11
    go_wp2_with fail
    refine (valid_is o false HV A c _ hl hd (HA.out.ext HE.out)).mono ?_; rintro e w1 ⟨rfl, hx1⟩
    go_wp2
    go_ret2
    exact ⟨by rw [encR, HV.out]; rfl, HE.out.trans hx1⟩
  | true =>
    have ho := validB_ok hv
    have HV := Hd.mk hv; clear hv
    go_enter Tryz.func11, Tryz.ntmps11
    go_wp2_with fail
    refine (valid_is o true HV A c _ hl hd (HA.out.ext HE.out)).mono ?_; rintro e w1 ⟨rfl, hx1⟩
    obtain ⟨H, hH⟩ : ∃ H, H = w.heap.size := ⟨_, rfl⟩
    have hb1 := hx1.obj (heap_alloc_new w (.cells #[.int .i64 o.kind, .slice A o.refs.length c, .string o.data] 24))
    have HX1 := Hd.mk (HE.out.trans hx1); clear hx1
    rw [← hH] at hb1
    rw [← hH]
    have d0 : ∀ w2, Ext w1 w2 → w2.cell? ⟨H, 0, none⟩ = some (.int .i64 o.kind) ∧ w2.cell? ⟨H, 1, none⟩ = some (.slice A o.refs.length c) ∧ w2.cell? ⟨H, 2, none⟩ = some (.string o.data) := fun w2 hx => ⟨cell_of (hx.obj hb1) rfl, cell_of (hx.obj hb1) rfl, cell_of (hx.obj hb1) rfl⟩
    have D0 := Hd.mk d0; clear d0 hb1
    have HH := Hd.mk hH; clear hH
    obtain ⟨k0, k1, n0, dd, rr⟩ := ho
    have RR := Hd.mk rr; clear rr
    go_wp2_with fail
    have hs1 := uvs_size o.kind.toNat (by omega)
    have hs2 := textsB_size o.refs (by omega) RR.out
    have hs3 := txt_size o.data (by omega)
    refine wp_region_pi (fun w' => w'.cell? ⟨H, 0, none⟩ = some (.int .i64 o.kind) ∧ w'.cell? ⟨H, 1, none⟩ = some (.slice A o.refs.length c) ∧ w'.cell? ⟨H, 2, none⟩ = some (.string o.data)) [(true, 0), (true, 1), (true, 3), (true, 4), (true, 7), (true, 8), (false, 2), (false, 5), (true, 6), (false, 9), (true, 10), (true, 11), (true, 12)] (by kernel_rfl) (by kernel_rfl) (by intro c a d v w h; cases d <;> exact h) ?_
    iterate 6 (refine pi_still rfl (D0.out _ ((Ext.refl w1).drew)) rfl (fun w' hS => by obtain ⟨s0, s1, s2⟩ := hS; go_simp; rfl) ?_; intro K hK; go_simp; refine hK _ _ ?_; clear hK K)
    refine pi_act rfl rfl ?_; intro K hK; go_simp; refine (objNumber_any _ _ k0 (by omega)).mono ?_; rintro e w2 ⟨rfl, hx2⟩
    have HX2 := Hd.mk ((Ext.refl w1).drew.trans hx2); clear hx2
    refine hK _ _ (D0.out _ HX2.out) ?_; clear hK K
    refine pi_act rfl rfl ?_; intro K hK; go_simp; refine (textsP_any o.refs A c _ (by omega) (fun x hx => by rw [RR.out x hx]; omega) (HA.out.ext (HX1.out.trans HX2.out))).mono ?_; rintro e w3 ⟨rfl, hx3⟩
    have HX3 := Hd.mk (HX2.out.trans hx3); clear hx3
    refine hK _ _ (D0.out _ HX3.out) ?_; clear hK K
    have HF : Hd (encB o = uvs o.kind.toNat ++ textsB o.refs ++ txt o.data) := ⟨rfl⟩
    generalize uvs o.kind.toNat = z1 at *
    generalize textsB o.refs = z2 at *
    generalize hz3 : txt o.data = z3 at *
    have HZ3 := Hd.mk hz3; clear hz3
    have hcat : ¬ 9223372036854775807 < z1.size + z2.size := by omega
    have hcat2 : ¬ 9223372036854775807 < z1.size + z2.size + z3.size := by omega
    refine pi_still rfl (D0.out _ HX3.out) rfl (fun w' hS => by go_simp; rfl) ?_; intro K hK; go_simp; refine hK _ _ ?_; clear hK K
    refine pi_act rfl rfl ?_; intro K hK; go_simp; refine (text_any o.data _ (by omega)).mono ?_; rintro e w4 ⟨rfl, hx4⟩
    rw [HZ3.out]
    have HX4 := Hd.mk (HX3.out.trans hx4); clear hx4
    refine hK _ _ (D0.out _ HX4.out) ?_; clear hK K
    iterate 3 (refine pi_still rfl (D0.out _ HX4.out) rfl (fun w' hS => by go_simp; rfl) ?_; intro K hK; go_simp; refine hK _ _ ?_; clear hK K)
    refine pi_nil ?_
    go_wp2
    go_ret2
    exact ⟨by rw [encR, HV.out, HF.out]; rfl, HX1.out.trans HX4.out⟩
/-- what Digest hands back -/
def digO (o : Obj) : ByteArray := sha (⟨#[7]⟩ ++ encB o)
def digR (o : Obj) : Value := if validB o then .tuple #[.string (digO o), .int .i64 0] else .tuple #[.string ⟨#[]⟩, .int .i64 1]
theorem encode_is (o : Obj) (v : Value) (H : Hd (encR o = v)) (A : Option Addr) (c : Nat) (w : World) (hl : o.refs.length ≤ 9223372036854775807) (hd : o.data.size ≤ 9223372036854775807) (hA : StrsAt w A o.refs) :
    Calls Tryz.prog 11 #[.agg #[.int .i64 o.kind, .slice A o.refs.length c, .string o.data]] w fun e w' => e = .returned v ∧ Ext w w' := by
  rw [← H.out]; exact encode_any o A c w hl hd hA
set_option maxRecDepth 100000 in
set_option maxHeartbeats 2000000 in
theorem digest_any (o : Obj) (A : Option Addr) (c : Nat) (w : World) (hl : o.refs.length ≤ 9223372036854775807) (hd : o.data.size ≤ 9223372036854775807) (hA : StrsAt w A o.refs) :
    Calls Tryz.prog 13 #[.agg #[.int .i64 o.kind, .slice A o.refs.length c, .string o.data]] w fun e w' => e = .returned (digR o) ∧ Ext w w' := by
  have HA := Hd.mk hA; clear hA
  have HE := Hd.mk ((Ext.refl w).alloc (.cells #[.int .i64 o.kind, .slice A o.refs.length c, .string o.data] 24))
  cases hv : validB o with
  | false =>
    have HV := Hd.mk hv
    have HR : Hd (encR o = .tuple #[.string ⟨#[]⟩, .int .i64 1]) := ⟨by rw [encR, hv]; rfl⟩
    clear hv
    go_enter Tryz.func13, Tryz.ntmps13
    go_wp2_with fail
    refine (encode_is o _ HR A c _ hl hd (HA.out.ext HE.out)).mono ?_; rintro e w1 ⟨rfl, hx1⟩
    go_wp2
    go_ret2
    exact ⟨by rw [digR, HV.out]; rfl, HE.out.trans hx1⟩
  | true =>
    have ho := encB_size (validB_ok hv)
    have HV := Hd.mk hv
    have HR : Hd (encR o = .tuple #[.string (encB o), .int .i64 0]) := ⟨by rw [encR, hv]; rfl⟩
    clear hv
    go_enter Tryz.func13, Tryz.ntmps13
    go_wp2_with fail
    refine (encode_is o _ HR A c _ hl hd (HA.out.ext HE.out)).mono ?_; rintro e w1 ⟨rfl, hx1⟩
    have HD : Hd (digO o = sha (⟨#[7]⟩ ++ encB o)) := ⟨rfl⟩
    generalize encB o = z at *
    have h7 : ((⟨#[7]⟩ : ByteArray) ++ z).size ≤ 200000 := by rw [ByteArray.size_append, show (⟨#[7]⟩ : ByteArray).size = 1 from rfl]; omega
    go_wp2_with fail
    refine (shaP_any _ (by omega) _).mono ?_; rintro e w2 ⟨rfl, hx2⟩
    go_wp2
    go_ret2
    exact ⟨by rw [digR, HV.out, HD.out]; rfl, (HE.out.trans hx1).trans hx2⟩
end Go.Proofs.YtfofapggmoibkaaGreatDoor
namespace Go.Proofs.YtfofapggmoibkaaGreatDoor
open Go Go.RowKit

theorem ret_cell_tmp {P : Program} {fn : Func} {p u : Tmp} {ty : TypeId} (h : fn.results = #[.cell p ty, .tmp u]) (tmps : Array Value) (w : World) (g : Nat) (t : TypeId) (cs : Array Value) (d : TypeDesc) (v : Value)
    (hp : tmps.getD p undef = .pointer (some ⟨g, 0, none⟩)) (hv : tmps.getD u undef = v) (hg : w.heap[g]? = some (.cells cs t (0, 0))) (hu : P.underlying ty = some d) (hd : (match d with | .struct _ | .array _ _ => true | _ => false) = true) (hi : (P.info? ty).map (·.size) = some cs.size) :
    (results fn tmps).run P w = .ok (.tuple #[.agg cs, v]) w := by
  rw [results_cell_tmp h, hp, hv]
  have e : (asAddr (.pointer (some ⟨g, 0, none⟩))).run P w = .ok ⟨g, 0, none⟩ w := by simp [asAddr]
  rw [e]
  simp only [Result.andThen_ok]
  rw [run_loadVar_row w g t ty cs (0, 0) d hg hu hd hi]
  rfl
theorem uintS_at {s : ByteArray} {st : Nat × Int} (h : st.1 ≤ s.size) : (uintS s st).2.1 ≤ s.size := by
  unfold uintS; split
  · split
    · rename_i heq; exact (sizeO_bound heq).2.2
    · exact h
  · exact h
theorem textS_at {s : ByteArray} {st : Nat × Int} (h : st.1 ≤ s.size) : (textS s st).2.1 ≤ s.size := by
  unfold textS; split
  · split
    · rename_i heq; exact (textO_bound heq).2.1
    · exact h
  · exact h
theorem textsO_bound {s : ByteArray} {a : Nat} {l : List ByteArray} {next : Nat} (h : textsO s a = some (l, next)) : next ≤ s.size ∧ a ≤ next ∧ l.length ≤ s.size ∧ ∀ x ∈ l, x.size ≤ s.size := by
  unfold textsO at h
  cases ho : sizeO s a with
  | none => rw [ho] at h; cases h
  | some r =>
    obtain ⟨n, nx⟩ := r
    rw [ho] at h
    simp only at h
    have hb := sizeO_bound ho
    split at h
    · have hl := textsL_len h
      exact ⟨hl.2.2.1 hb.2.2, by omega, by omega, hl.2.2.2⟩
    · cases h
theorem textsS_at {s : ByteArray} {st : Nat × Int} (h : st.1 ≤ s.size) : (textsS s st).2.1 ≤ s.size := by
  unfold textsS; split
  · split
    · rename_i heq; exact (textsO_bound heq).1
    · exact h
  · exact h
theorem textsS_len {s : ByteArray} {st : Nat × Int} : (textsS s st).1.length ≤ s.size ∧ (∀ x ∈ (textsS s st).1, x.size ≤ s.size) := by
  unfold textsS; split
  · split
    · rename_i heq; exact (textsO_bound heq).2.2
    · simp
  · simp
theorem textS_len {s : ByteArray} {st : Nat × Int} : (textS s st).1.size ≤ s.size := by
  unfold textS; split
  · split
    · rename_i heq; exact (textO_bound heq).2.2
    · exact Nat.zero_le _
  · exact Nat.zero_le _
/-- what is decoded -/
def decO (s : ByteArray) : Option Obj :=
  if endS s (textS s (textsS s (uintS s (0, 0)).2).2).2 = 0 ∧ validB ⟨(uintS s (0, 0)).1, (textsS s (uintS s (0, 0)).2).1, (textS s (textsS s (uintS s (0, 0)).2).2).1⟩ = true then some ⟨(uintS s (0, 0)).1, (textsS s (uintS s (0, 0)).2).1, (textS s (textsS s (uintS s (0, 0)).2).2).1⟩ else none
theorem StrsAt.but {w w' : World} {A : Option Addr} {l : List ByteArray} {g n c : Nat} (h : StrsAt w A l) (hb : But w w' g) {B : Nat} (hn : FreshV B (.slice A n c)) (hg : g < B) : StrsAt w' A l :=
  h.move fun b off hA hlt => hb.block b hlt (by intro e; injection e with e; have := hn b off n c (by rw [hA]); omega)
theorem StrsAt.row' {w : World} {A : Option Addr} {l : List ByteArray} {g : Nat} (h : StrsAt w A l) (hn : ∀ b o, A = some ⟨b, o, none⟩ → b ≠ g) (cs : Array Value) : StrsAt (w.setRow g cs) A l :=
  h.move fun b off hA hlt => setRow_other _ _ _ _ (hn b off hA)
abbrev objZ : Array Value := #[.int .i64 0, .slice none 0 0, .string ⟨#[]⟩]
abbrev objC (o : Obj) (A : Option Addr) (c : Nat) : Array Value := #[.int .i64 o.kind, .slice A o.refs.length c, .string o.data]
def DecPost (w : World) (r : Option Obj) (bad : Int) (e : Ending) (w' : World) : Prop :=
  Ext w w' ∧ match r with
  | some o => ∃ A c, StrsAt w' A o.refs ∧ o.refs.length ≤ c ∧ e = .returned (.tuple #[.agg (objC o A c), .int .i64 0])
  | none => e = .returned (.tuple #[.agg objZ, .int .i64 bad])
theorem info_obj : (Tryz.prog.info? 24).map (fun i => (i.zero, i.size)) = some (some (.agg objZ), 3) := by kernel_rfl
theorem objC_one (o : Obj) (A : Option Addr) (c : Nat) : (objC o A c).all (·.oneCell') = true := by simp [objC, Value.oneCell']
theorem objZ_one : objZ.all (·.oneCell') = true := by simp [objZ, Value.oneCell']
theorem size_obj : (Tryz.prog.info? 24).map (·.size) = some 3 := (zero_of_info info_obj).2

set_option maxRecDepth 100000 in
set_option maxHeartbeats 2000000 in
theorem decode_any (s : ByteArray) (hs : s.size ≤ 1000000) (w : World) :
    Calls Tryz.prog 15 #[.string s] w (DecPost w (decO s) 9) := by
  have a1 := uintS_at (s := s) (st := (0, 0)) (Nat.zero_le _)
  have a2 := textsS_at (s := s) (st := (uintS s (0, 0)).2) a1
  have a3 := textS_at (s := s) (st := (textsS s (uintS s (0, 0)).2).2) a2
  have l2 := textsS_len (s := s) (st := (uintS s (0, 0)).2)
  have l3 := textS_len (s := s) (st := (textsS s (uintS s (0, 0)).2).2)
  generalize hr : decO s = r
  unfold decO at hr
  have R1 := fun w1 (h : Rdr w1 (w.heap.size + 1) s (0, 0)) => rUint w1 h (by omega) (by simp)
  generalize uintS s (0, 0) = u1 at *
  have R2 := fun w1 (h : Rdr w1 (w.heap.size + 1) s u1.2) => rTexts w1 h (by omega) (by omega)
  generalize textsS s u1.2 = u2 at *
  have R3 := fun w1 (h : Rdr w1 (w.heap.size + 1) s u2.2) => rText w1 h (by omega) (by omega)
  generalize textS s u2.2 = u3 at *
  have R4 := fun w1 (h : Rdr w1 (w.heap.size + 1) s u3.2) => rEnd w1 h (by omega) (by omega)
  generalize hen : endS s u3.2 = en at *
  obtain ⟨k, st1⟩ := u1
  obtain ⟨l, st2⟩ := u2
  obtain ⟨d, st3⟩ := u3
  simp only at *
  obtain ⟨ll, lx⟩ := l2
  have RR := Hd.mk (And.intro R1 (And.intro R2 (And.intro R3 R4))); have HR := Hd.mk hr; have HEN := Hd.mk hen; clear R1 R2 R3 R4 lx hen hr
  go_enter Tryz.func15, Tryz.ntmps15
  go_wp2_with fail
  refine (newReader s _).mono ?_; rintro e w1 ⟨rfl, hr1, hx1⟩
  have hz0 := hx1.obj (heap_alloc_new w (.cells objZ 24))
  have HX1 := Hd.mk (((Ext.refl w).alloc (.cells objZ 24)).trans hx1)
  have e1 : (w.alloc (.cells objZ 24)).heap.size = w.heap.size + 1 := by simp
  have hr1' : Rdr w1 (w.heap.size + 1) s (0, 0) := by rw [← e1]; exact hr1
  have HZ0 := Hd.mk hz0; have HR1 := Hd.mk hr1'; clear hx1 hr1 hr1' hz0 e1
  go_wp2_with fail
  refine (RR.out.1 _ HR1.out).mono ?_; rintro e w2 ⟨rfl, hr2, hg2⟩
  have HX2 := Hd.mk (But.ext HX1.out hg2 (by omega)); have HZ2 := Hd.mk (But.other hg2 (by omega) HZ0.out)
  have HR2 := Hd.mk hr2; clear hr2 hg2 HX1 HZ0 HR1
  go_wp2_with fail
  refine (RR.out.2.1 _ HR2.out).mono ?_; rintro e w3 ⟨v, rfl, hsl, hna, hr3, hg3⟩
  obtain ⟨A, c, rfl, hc, hA⟩ := hsl
  have HX3 := Hd.mk (But.ext HX2.out hg3 (by omega)); have HZ3 := Hd.mk (But.other hg3 (by omega) HZ2.out)
  have HR3 := Hd.mk hr3; have HA := Hd.mk hA; have HNA := Hd.mk hna; have hlt3 := HR2.out.lt; clear hr3 hg3 HX2 HZ2 HR2 hA hna
  go_wp2_with fail
  refine (RR.out.2.2.1 _ HR3.out).mono ?_; rintro e w4 ⟨rfl, hr4, hg4⟩
  have HX4 := Hd.mk (But.ext HX3.out hg4 (by omega)); have HZ4 := Hd.mk (But.other hg4 (by omega) HZ3.out)
  have HA4 := Hd.mk (HA.out.but hg4 HNA.out hlt3)
  have HNA4 := Hd.mk HNA.out
  have HR4 := Hd.mk hr4; clear hr4 hg4 HX3 HZ3 HR3 HA HNA
  have hs4 := HX4.out.size
  go_wp2_with (refine boxRow 24 objZ ?_ (objC ⟨k, l, d⟩ A c) (n := 25) (i := 5) (k := 14) ?_ ?_ ?_ ?_ ?_ ?_; exact info_obj; rfl; decide; rfl; rfl; exact objC_one _ _ _; intro w5 h5 hx5 hz5; have H5 := Hd.mk h5; have HX5 := Hd.mk hx5; have HZ5 := Hd.mk hz5; clear h5 hx5 hz5)
  have HX6 := fun w6 (hx : Ext w5 w6) => (HX4.out.trans HX5.out).trans hx
  have HZ6 := fun w6 (hx : Ext w5 w6) => hx.obj (HX5.out.obj HZ4.out)
  have HO6 := fun w6 (hx : Ext w5 w6) => hx.obj H5.out
  have HA6 := fun w6 (hx : Ext w5 w6) => (HA4.out.ext HX5.out).ext hx
  have HH := Hd.mk (And.intro HX6 (And.intro HZ6 (And.intro HO6 HA6)))
  have HR5 := Hd.mk (HR4.out.far HX5.out)
  clear HX6 HZ6 HO6 HA6 HX5 HZ4 H5 HA4 HX4
  by_cases he : en = 0
  · have he' : (en != 0) = false := by simp [he]
    cases hv : validB ⟨k, l, d⟩ with
    | false =>
      have HV := Hd.mk hv; have HE := Hd.mk he; clear hv he
      go_wp2_with fail
      refine (RR.out.2.2.2 _ HR5.out).mono ?_; rintro e w6 ⟨rfl, hx6⟩
      have HXX := Hd.mk hx6; clear hx6
      have q0 := cell_of (HH.out.2.2.1 _ HXX.out) (j := 0) (v := .int .i64 k) rfl
      have q1 := cell_of (HH.out.2.2.1 _ HXX.out) (j := 1) (v := .slice A l.length c) rfl
      have q2 := cell_of (HH.out.2.2.1 _ HXX.out) (j := 2) (v := .string d) rfl
      go_wp2_with fail
      refine (valid_is ⟨k, l, d⟩ false HV A c _ (by simp only; omega) (by simp only; omega) (HH.out.2.2.2 _ HXX.out)).mono ?_; rintro e w7 ⟨rfl, hx7⟩
      have HX7 := Hd.mk (HXX.out.trans hx7); clear hx7 HXX q0 q1 q2
      go_wp2_with (refine stRow 24 w.heap.size objZ ?_ ?_ 24 objZ ?_ ?_ ?_ ?_ ?_; rfl; rfl; exact HH.out.2.1 _ HX7.out; exact size_obj; rfl; exact objZ_one)
      refine bodyPost_ret (v := .tuple #[.agg objZ, .int .i64 9]) ?_ (by rfl) ?_
      · exact ret_cell_tmp (p := 2) (u := 3) (ty := 24) rfl _ _ w.heap.size 24 objZ _ _ (by rfl) (by rfl) (row_block (HH.out.2.1 _ HX7.out)) Tryz.underlying24 rfl size_obj
      · rw [← HR.out, if_neg (by rw [HV.out]; simp)]
        exact ⟨(HH.out.1 _ HX7.out).row (Nat.le_refl _) _, rfl⟩
    | true =>
      have HV := Hd.mk hv; have HE := Hd.mk he; clear hv he
      go_wp2_with fail
      refine (RR.out.2.2.2 _ HR5.out).mono ?_; rintro e w6 ⟨rfl, hx6⟩
      have HXX := Hd.mk hx6; clear hx6
      have q0 := cell_of (HH.out.2.2.1 _ HXX.out) (j := 0) (v := .int .i64 k) rfl
      have q1 := cell_of (HH.out.2.2.1 _ HXX.out) (j := 1) (v := .slice A l.length c) rfl
      have q2 := cell_of (HH.out.2.2.1 _ HXX.out) (j := 2) (v := .string d) rfl
      go_wp2_with fail
      refine (valid_is ⟨k, l, d⟩ true HV A c _ (by simp only; omega) (by simp only; omega) (HH.out.2.2.2 _ HXX.out)).mono ?_; rintro e w7 ⟨rfl, hx7⟩
      have HX7 := Hd.mk (HXX.out.trans hx7); clear hx7 HXX q0 q1 q2
      go_wp2_with (first
        | (refine ldRow 24 w4.heap.size ?_ 24 (objC ⟨k, l, d⟩ A c) _ (HH.out.2.2.1 _ HX7.out) Tryz.underlying24 ?_ ?_ ?_; rfl; rfl; exact size_obj)
        | (refine stRow 24 w.heap.size (objC ⟨k, l, d⟩ A c) ?_ ?_ 24 objZ ?_ ?_ ?_ ?_ ?_; rfl; rfl; exact HH.out.2.1 _ HX7.out; exact size_obj; rfl; exact objC_one _ _ _))
      refine bodyPost_ret (v := .tuple #[.agg (objC ⟨k, l, d⟩ A c), .int .i64 0]) ?_ (by rfl) ?_
      · exact ret_cell_tmp (p := 2) (u := 3) (ty := 24) rfl _ _ w.heap.size 24 (objC ⟨k, l, d⟩ A c) _ _ (by rfl) (by rfl) (row_block (HH.out.2.1 _ HX7.out)) Tryz.underlying24 rfl size_obj
      · rw [← HR.out, if_pos ⟨HE.out, HV.out⟩]
        refine ⟨(HH.out.1 _ HX7.out).row (Nat.le_refl _) _, A, c, ?_, hc, rfl⟩
        exact (HH.out.2.2.2 _ HX7.out).row' (by intro b o hb; have := HNA4.out b o _ _ (by rw [hb]); omega) _
  · have he' : (en != 0) = true := by simp [he]
    have HE := Hd.mk he; clear he
    go_wp2_with fail
    refine (RR.out.2.2.2 _ HR5.out).mono ?_; rintro e w6 ⟨rfl, hx6⟩
    have HX7 := Hd.mk hx6; clear hx6
    go_wp2_with (refine stRow 24 w.heap.size objZ ?_ ?_ 24 objZ ?_ ?_ ?_ ?_ ?_; rfl; rfl; exact HH.out.2.1 _ HX7.out; exact size_obj; rfl; exact objZ_one)
    refine bodyPost_ret (v := .tuple #[.agg objZ, .int .i64 9]) ?_ (by rfl) ?_
    · exact ret_cell_tmp (p := 2) (u := 3) (ty := 24) rfl _ _ w.heap.size 24 objZ _ _ (by rfl) (by rfl) (row_block (HH.out.2.1 _ HX7.out)) Tryz.underlying24 rfl size_obj
    · rw [← HR.out, if_neg (by intro h; exact HE.out h.1)]
      exact ⟨(HH.out.1 _ HX7.out).row (Nat.le_refl _) _, rfl⟩
end Go.Proofs.YtfofapggmoibkaaGreatDoor
namespace Go.Proofs.YtfofapggmoibkaaGreatDoor
open Go Go.RowKit

theorem digests_is (l : List ByteArray) (b : Bool) (H : Hd (digB l = b)) (A : Option Addr) (c : Nat) (w : World) (hl : l.length ≤ 9223372036854775807) (hA : StrsAt w A l) :
    Calls Tryz.prog 77 #[.slice A l.length c] w fun e w' => e = .returned (.bool b) ∧ w = w' := by rw [← H.out]; exact digests_any l A c w hl hA
set_option maxRecDepth 100000 in
set_option maxHeartbeats 1000000 in
theorem validR_any (o : Obj) (A : Option Addr) (c : Nat) (w : World) (hl : o.refs.length ≤ 9223372036854775807) (hd : o.data.size ≤ 9223372036854775807) (hA : StrsAt w A o.refs) :
    Calls Tryz.prog 42 #[.agg #[.int .i64 o.kind, .slice A o.refs.length c, .string o.data]] w fun e w' => e = .returned (.bool (validB o)) ∧ Ext w w' := by
  obtain ⟨k, l, d⟩ := o
  simp only at *
  have HA := Hd.mk hA; clear hA
  have HE := Hd.mk ((Ext.refl w).alloc (.cells #[.int .i64 k, .slice A l.length c, .string d] 24))
  by_cases h1 : 0 ≤ k
  · by_cases h2 : k ≤ 15
    · by_cases h3 : l.length ≤ 64
      · by_cases h4 : d.size ≤ 65536
        · go_enter Tryz.func42, Tryz.ntmps42
          go_wp2_with fail
          refine (digests_any l A c _ hl (HA.out.ext HE.out)).mono ?_; rintro e _ ⟨rfl, rfl⟩
          go_wp2
          go_ret
          exact ⟨congrArg Ending.returned (vbool (by simp [validB, h1, h2, h3, h4])), HE.out⟩
        · go_enter Tryz.func42, Tryz.ntmps42
          go_wp2_with fail
          go_ret
          exact ⟨congrArg Ending.returned (vbool (by simp [validB, h1, h2, h3, h4])), HE.out⟩
      · go_enter Tryz.func42, Tryz.ntmps42
        go_wp2_with fail
        go_ret
        exact ⟨congrArg Ending.returned (vbool (by simp [validB, h1, h2, h3])), HE.out⟩
    · go_enter Tryz.func42, Tryz.ntmps42
      go_wp2_with fail
      go_ret
      exact ⟨congrArg Ending.returned (vbool (by simp [validB]; intros; omega)), HE.out⟩
  · go_enter Tryz.func42, Tryz.ntmps42
    go_wp2_with fail
    go_ret
    exact ⟨congrArg Ending.returned (vbool (by simp [validB]; intros; omega)), HE.out⟩
theorem validR_is (o : Obj) (b : Bool) (H : Hd (validB o = b)) (A : Option Addr) (c : Nat) (w : World) (hl : o.refs.length ≤ 9223372036854775807) (hd : o.data.size ≤ 9223372036854775807) (hA : StrsAt w A o.refs) :
    Calls Tryz.prog 42 #[.agg #[.int .i64 o.kind, .slice A o.refs.length c, .string o.data]] w fun e w' => e = .returned (.bool b) ∧ Ext w w' := by
  rw [← H.out]; exact validR_any o A c w hl hd hA
set_option maxRecDepth 100000 in
set_option maxHeartbeats 2000000 in
theorem encodeR_any (o : Obj) (A : Option Addr) (c : Nat) (w : World) (hl : o.refs.length ≤ 9223372036854775807) (hd : o.data.size ≤ 9223372036854775807) (hA : StrsAt w A o.refs) :
    Calls Tryz.prog 12 #[.agg #[.int .i64 o.kind, .slice A o.refs.length c, .string o.data]] w fun e w' => e = .returned (encR o) ∧ Ext w w' := by
  have HA := Hd.mk hA; clear hA
  have HE := Hd.mk ((Ext.refl w).alloc (.cells #[.int .i64 o.kind, .slice A o.refs.length c, .string o.data] 24))
  cases hv : validB o with
  | false =>
    have HV := Hd.mk hv; clear hv
    go_enter Tryz.func12, Tryz.ntmps12
    go_wp2_with fail
    refine (validR_is o false HV A c _ hl hd (HA.out.ext HE.out)).mono ?_; rintro e w1 ⟨rfl, hx1⟩
    go_wp2
    go_ret2
    exact ⟨by rw [encR, HV.out]; rfl, HE.out.trans hx1⟩
  | true =>
    have ho := validB_ok hv
    have HV := Hd.mk hv; clear hv
    go_enter Tryz.func12, Tryz.ntmps12
    go_wp2_with fail
    refine (validR_is o true HV A c _ hl hd (HA.out.ext HE.out)).mono ?_; rintro e w1 ⟨rfl, hx1⟩
    obtain ⟨H, hH⟩ : ∃ H, H = w.heap.size := ⟨_, rfl⟩
    have hb1 := hx1.obj (heap_alloc_new w (.cells #[.int .i64 o.kind, .slice A o.refs.length c, .string o.data] 24))
    have HX1 := Hd.mk (HE.out.trans hx1); clear hx1
    rw [← hH] at hb1
    rw [← hH]
    have d0 : ∀ w2, Ext w1 w2 → w2.cell? ⟨H, 0, none⟩ = some (.int .i64 o.kind) ∧ w2.cell? ⟨H, 1, none⟩ = some (.slice A o.refs.length c) ∧ w2.cell? ⟨H, 2, none⟩ = some (.string o.data) := fun w2 hx => ⟨cell_of (hx.obj hb1) rfl, cell_of (hx.obj hb1) rfl, cell_of (hx.obj hb1) rfl⟩
    have D0 := Hd.mk d0; clear d0 hb1
    have HH := Hd.mk hH; clear hH
    obtain ⟨k0, k1, n0, dd, rr⟩ := ho
    have RR := Hd.mk rr; clear rr
    obtain ⟨q0, q1, q2⟩ := D0.out _ (Ext.refl w1)
    go_wp2_with fail
    refine (uintR_any _ _ k0 (by omega)).mono ?_; rintro e w2 ⟨rfl, hx2⟩
    have HX2 := Hd.mk hx2; clear hx2 q0 q1 q2
    have hs1 := uvs_size o.kind.toNat (by omega)
    have hs2 := textsB_size o.refs (by omega) RR.out
    have hs3 := txt_size o.data (by omega)
    have HF : Hd (encB o = uvs o.kind.toNat ++ textsB o.refs ++ txt o.data) := ⟨rfl⟩
    generalize uvs o.kind.toNat = z1 at *
    go_wp2_with fail
    refine wp_region_pi (fun w' => w'.cell? ⟨H, 0, none⟩ = some (.int .i64 o.kind) ∧ w'.cell? ⟨H, 1, none⟩ = some (.slice A o.refs.length c) ∧ w'.cell? ⟨H, 2, none⟩ = some (.string o.data)) [(true, 0), (true, 1), (true, 2), (true, 5), (true, 6), (false, 3), (true, 4), (false, 7), (true, 8), (true, 9), (true, 10)] (by kernel_rfl) (by kernel_rfl) (by intro c a d v w h; cases d <;> exact h) ?_
    iterate 5 (refine pi_still rfl (D0.out _ (HX2.out.trans (Ext.refl w2).drew)) rfl (fun w' hS => by obtain ⟨s0, s1, s2⟩ := hS; go_simp; rfl) ?_; intro K hK; go_simp; refine hK _ _ ?_; clear hK K)
    refine pi_act rfl rfl ?_; intro K hK; go_simp; refine (textsR_any o.refs A c _ (by omega) (fun x hx => by rw [RR.out x hx]; omega) (HA.out.ext (HX1.out.trans (HX2.out.trans (Ext.refl w2).drew)))).mono ?_; rintro e w3 ⟨rfl, hx3⟩
    have HX3 := Hd.mk ((HX2.out.trans (Ext.refl w2).drew).trans hx3); clear hx3
    refine hK _ _ (D0.out _ HX3.out) ?_; clear hK K
    generalize textsB o.refs = z2 at *
    generalize hz3 : txt o.data = z3 at *
    have HZ3 := Hd.mk hz3; clear hz3
    have hcat : ¬ 9223372036854775807 < z1.size + z2.size := by omega
    have hcat2 : ¬ 9223372036854775807 < z1.size + z2.size + z3.size := by omega
    refine pi_still rfl (D0.out _ HX3.out) rfl (fun w' hS => by go_simp; rfl) ?_; intro K hK; go_simp; refine hK _ _ ?_; clear hK K
    refine pi_act rfl rfl ?_; intro K hK; go_simp; refine (textR_any o.data _ (by omega)).mono ?_; rintro e w4 ⟨rfl, hx4⟩
    rw [HZ3.out]
    have HX4 := Hd.mk (HX3.out.trans hx4); clear hx4
    refine hK _ _ (D0.out _ HX4.out) ?_; clear hK K
    iterate 3 (refine pi_still rfl (D0.out _ HX4.out) rfl (fun w' hS => by go_simp; rfl) ?_; intro K hK; go_simp; refine hK _ _ ?_; clear hK K)
    refine pi_nil ?_
    go_wp2
    go_ret2
    exact ⟨by rw [encR, HV.out, HF.out]; rfl, HX1.out.trans HX4.out⟩
theorem encodeR_is (o : Obj) (v : Value) (H : Hd (encR o = v)) (A : Option Addr) (c : Nat) (w : World) (hl : o.refs.length ≤ 9223372036854775807) (hd : o.data.size ≤ 9223372036854775807) (hA : StrsAt w A o.refs) :
    Calls Tryz.prog 12 #[.agg #[.int .i64 o.kind, .slice A o.refs.length c, .string o.data]] w fun e w' => e = .returned v ∧ Ext w w' := by
  rw [← H.out]; exact encodeR_any o A c w hl hd hA
set_option maxRecDepth 100000 in
set_option maxHeartbeats 2000000 in
theorem digestR_any (o : Obj) (A : Option Addr) (c : Nat) (w : World) (hl : o.refs.length ≤ 9223372036854775807) (hd : o.data.size ≤ 9223372036854775807) (hA : StrsAt w A o.refs) :
    Calls Tryz.prog 14 #[.agg #[.int .i64 o.kind, .slice A o.refs.length c, .string o.data]] w fun e w' => e = .returned (digR o) ∧ Ext w w' := by
  have HA := Hd.mk hA; clear hA
  have HE := Hd.mk ((Ext.refl w).alloc (.cells #[.int .i64 o.kind, .slice A o.refs.length c, .string o.data] 24))
  cases hv : validB o with
  | false =>
    have HV := Hd.mk hv
    have HR : Hd (encR o = .tuple #[.string ⟨#[]⟩, .int .i64 1]) := ⟨by rw [encR, hv]; rfl⟩
    clear hv
    go_enter Tryz.func14, Tryz.ntmps14
    go_wp2_with fail
    refine (encodeR_is o _ HR A c _ hl hd (HA.out.ext HE.out)).mono ?_; rintro e w1 ⟨rfl, hx1⟩
    go_wp2
    go_ret2
    exact ⟨by rw [digR, HV.out]; rfl, HE.out.trans hx1⟩
  | true =>
    have ho := encB_size (validB_ok hv)
    have HV := Hd.mk hv
    have HR : Hd (encR o = .tuple #[.string (encB o), .int .i64 0]) := ⟨by rw [encR, hv]; rfl⟩
    clear hv
    go_enter Tryz.func14, Tryz.ntmps14
    go_wp2_with fail
    refine (encodeR_is o _ HR A c _ hl hd (HA.out.ext HE.out)).mono ?_; rintro e w1 ⟨rfl, hx1⟩
    have HD : Hd (digO o = sha (⟨#[7]⟩ ++ encB o)) := ⟨rfl⟩
    generalize encB o = z at *
    have h7 : ((⟨#[7]⟩ : ByteArray) ++ z).size ≤ 200000 := by rw [ByteArray.size_append, show (⟨#[7]⟩ : ByteArray).size = 1 from rfl]; omega
    go_wp2_with fail
    refine (sumR_any _ (by omega) _).mono ?_; rintro e w2 ⟨rfl, hx2⟩
    go_wp2
    go_ret2
    exact ⟨by rw [digR, HV.out, HD.out]; rfl, (HE.out.trans hx1).trans hx2⟩
end Go.Proofs.YtfofapggmoibkaaGreatDoor
