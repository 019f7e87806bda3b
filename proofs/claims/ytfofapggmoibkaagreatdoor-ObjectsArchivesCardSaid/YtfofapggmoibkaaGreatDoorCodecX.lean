/- The bytes of numbers and strings: what package codec computes. What the writing functions of package codec return. Reading an unsigned number: what the reader of package codec does at an offset. -/
import Derived.Test.YtfofapggmoibkaaGreatDoorProg
import Derived.Test.YtfofapggmoibkaaGreatDoorFoundA
set_option linter.unusedVariables false
set_option linter.unusedSimpArgs false
namespace Go.Proofs.YtfofapggmoibkaaGreatDoor
open Go Go.RowKit

def uv (n : Nat) : List UInt8 := if n < 128 then [UInt8.ofNat n] else UInt8.ofNat (n % 128 + 128) :: uv (n / 128)
termination_by n
decreasing_by omega
theorem uv_small {n : Nat} (h : n < 128) : uv n = [UInt8.ofNat n] := by rw [uv, if_pos h]
theorem uv_big {n : Nat} (h : ¬ n < 128) : uv n = UInt8.ofNat (n % 128 + 128) :: uv (n / 128) := by rw [uv, if_neg h]
theorem uv_len (k : Nat) : ∀ n, n < 128 ^ (k + 1) → (uv n).length ≤ k + 1 := by
  induction k with
  | zero => intro n h; rw [uv_small (by simpa using h)]; simp
  | succ k ih =>
    intro n h
    by_cases h1 : n < 128
    · rw [uv_small h1]; simp
    · rw [uv_big h1]
      have := ih (n / 128) (by rw [Nat.div_lt_iff_lt_mul (by omega)]; rw [Nat.pow_succ] at h; exact h)
      simp; omega
theorem or128 (t : Nat) (h : t < 256) : bits BinOp.or IntKind.u8 (t : Int) 128 = ((UInt8.ofNat (t % 128 + 128)).toNat : Int) := by
  have h0 : ∀ t : Fin 256, bits BinOp.or IntKind.u8 ((t.val : Nat) : Int) 128 = ((UInt8.ofNat (t.val % 128 + 128)).toNat : Int) := by decide +kernel
  exact h0 ⟨t, h⟩

theorem info_u8 : (Tryz.prog.info? 5).map (fun i => (i.zero, i.size, i.bytes)) = some (some (Go.Value.int .u8 0), 1, 1) := by kernel_rfl

set_option maxHeartbeats 400000 in
theorem unsigned_any (n : Nat) (hn : n < 18446744073709551616) (w : World) :
    Calls Tryz.prog 74 #[.int .u64 n] w fun e w' => e = .returned (.string ⟨(uv n).toArray⟩) ∧ Ext w w' := by
  go_enter Tryz.func74, Tryz.ntmps74
  go_wp2
  go_loopw [0, 3] (fun n' v wr => ∃ (m : Nat) (acc : List UInt8), n' = .int .u64 m ∧ m ≤ n ∧ wr.ownsRow w.heap.size 5 1 v acc.length (u8s acc) ∧ acc ++ uv m = uv n ∧ Ext w wr ∧ (∀ k, v.ownBlock = some k → w.heap.size ≤ k)) (fun n' _ _ => (intOf n').toNat)
  case atStart => exact ⟨n, [], rfl, Nat.le_refl _, own_nil _ _ _ _, rfl, Ext.refl _, by intro k hk; cases hk⟩
  case round =>
    obtain ⟨m, acc, rfl, hm, hown, hacc, hext, hbk⟩ := hrel
    have hlen' : acc.length ≤ 1000000 := by
      have h1 := uv_len 9 n (by omega)
      rw [← hacc, List.length_append] at h1
      omega
    have HA := Hd.mk hacc; clear hacc
    have HB := Hd.mk hbk; clear hbk
    have hb0 : w.heap.size ≤ wr.heap.size := hext.size
    by_cases hlt : 127 < m
    · go_wp2_with (at_builtin; go_must (refine app1 w.heap.size rfl _ _ 45 5 (.int .u8 0) 1 rfl Tryz.underlying45 info_u8 rfl hown rfl rfl rfl hb0 hlen' (by decide) ?_); intro v1 w1 hown1 hg1 hat1)
      go_roundw
      case rel =>
        refine ⟨m / 128, acc ++ [UInt8.ofNat (m % 128 + 128)], by simp, by omega, ?_, ?_, hext.grown hg1 HB.out, own_base hown1⟩
        · rw [u8s_snoc _ (UInt8.ofNat (m % 128 + 128)) _ (by
            rw [show ((m : Int) % 256) = ((m % 256 : Nat) : Int) by omega, or128 _ (by omega), show m % 256 % 128 = m % 128 by omega])] at hown1
          simpa using hown1
        · rw [← HA.out, uv_big (by omega : ¬ m < 128)]; simp
      case measure => simp [intOf]; omega
    · go_wp2_with (at_builtin; go_must (refine app1 w.heap.size rfl _ _ 45 5 (.int .u8 0) 1 rfl Tryz.underlying45 info_u8 rfl hown rfl rfl rfl hb0 hlen' (by decide) ?_); intro v1 w1 hown1 hg1 hat1; go_must (rw [u8s_snoc _ (UInt8.ofNat m) _ (by simp; omega)] at hown1); have hcv := own_str hown1 Tryz.underlying45 Tryz.underlying5 Tryz.underlying9)
      go_ret
      refine ⟨?_, hext.grown hg1 HB.out⟩
      rw [← HA.out, uv_small (by omega : m < 128)]
      rfl
end Go.Proofs.YtfofapggmoibkaaGreatDoor
namespace Go.Proofs.YtfofapggmoibkaaGreatDoor
open Go Go.RowKit

theorem ret_str {a b : ByteArray} (h : a = b) : Ending.returned (.string a) = .returned (.string b) := by rw [h]
/-- the bytes of an unsigned number -/
def uvs (n : Nat) : ByteArray := ⟨(uv n).toArray⟩
theorem uvs_size (n : Nat) (h : n < 18446744073709551616) : (uvs n).size ≤ 10 := by
  have := uv_len 9 n (by omega)
  simpa [uvs, ByteArray.size] using this
/-- the bytes of a string -/
def txt (s : ByteArray) : ByteArray := uvs s.size ++ s
theorem txt_size (s : ByteArray) (h : s.size ≤ 1000000000000) : (txt s).size ≤ s.size + 10 := by
  have := uvs_size s.size (by omega)
  simp [txt]; omega

theorem unsigned_int (n : Int) (w : World) (h0 : 0 ≤ n) (h1 : n < 18446744073709551616) :
    Calls Tryz.prog 74 #[.int .u64 n] w fun e w' => e = .returned (.string (uvs n.toNat)) ∧ Ext w w' := by
  obtain ⟨m, rfl⟩ := Int.eq_ofNat_of_zero_le h0
  exact unsigned_any m (by omega) w

set_option maxHeartbeats 400000 in
theorem text_any (s : ByteArray) (w : World) (hs : s.size ≤ 1000000000000) :
    Calls Tryz.prog 41 #[.string s] w fun e w' => e = .returned (.string (txt s)) ∧ Ext w w' := by
  have hz := uvs_size s.size (by omega)
  go_enter Tryz.func41, Tryz.ntmps41
  go_wp2_with (go_at_call 74; refine (unsigned_int _ _ (by omega) (by omega)).mono ?_; rintro e w1 ⟨rfl, hx⟩)
  go_ret
  exact ⟨by simp [txt], by assumption⟩

set_option maxHeartbeats 400000 in
theorem uint_any (n : Int) (w : World) (h0 : 0 ≤ n) (h1 : n < 9223372036854775808) :
    Calls Tryz.prog 73 #[.int .i64 n] w fun e w' => e = .returned (.tuple #[.string (uvs n.toNat), .int .i64 0]) ∧ Ext w w' := by
  go_enter Tryz.func73, Tryz.ntmps73
  go_wp2_with (go_at_call 74; refine (unsigned_int _ _ (by omega) (by omega)).mono ?_; rintro e w1 ⟨rfl, hx⟩)
  go_ret2
  exact ⟨rfl, by assumption⟩
end Go.Proofs.YtfofapggmoibkaaGreatDoor
namespace Go.Proofs.YtfofapggmoibkaaGreatDoor
open Go Go.RowKit

/-- the number that is read from byte k of it on, where n was read before -/
def scanL (s : ByteArray) (at_ : Nat) : Nat → Nat → Nat → Nat × Nat × Bool
  | 0, _, _ => (0, 0, false)
  | fuel + 1, k, n =>
    if s.size ≤ at_ + k ∨ 10 ≤ k then (0, 0, false) else
    if k = 9 ∧ 1 < byt s (at_ + k) then (0, 0, false) else
    if byt s (at_ + k) < 128 then (n + byt s (at_ + k) % 128 * 128 ^ k, at_ + k + 1, decide (0 < byt s (at_ + k) ∨ k = 0))
    else scanL s at_ fuel (k + 1) (n + byt s (at_ + k) % 128 * 128 ^ k)
def scanF (s : ByteArray) (at_ : Nat) : Nat × Nat × Bool := scanL s at_ 11 0 0
def scanV (r : Nat × Nat × Bool) : Value := .tuple #[.int .u64 r.1, .int .i64 r.2.1, .bool r.2.2]


theorem digit_val (m b k : Nat) (hm : m < 128 ^ k) (hk : k ≤ 9) (hb : b < 256) (h9 : k = 9 → b ≤ 1) :
    bits BinOp.or IntKind.u64 (m : Int) (IntKind.u64.wrap ((b : Int) % 128 * 2 ^ (7 * k))) = ((m + b % 128 * 128 ^ k : Nat) : Int) := by
  obtain ⟨h1, h2, h3⟩ := or_digit m b k hm hk hb h9
  have e : ((b : Int) % 128 * 2 ^ (7 * k)) = ((b % 128 * 128 ^ k : Nat) : Int) := by rw [pow128]; simp
  rw [e, wrap_u _ rfl, show b % 128 * 128 ^ k % 2 ^ IntKind.u64.bits = b % 128 * 128 ^ k from Nat.mod_eq_of_lt h3, or64 _ _ (by omega) h3, h2]
theorem digit_val9 (m b k : Nat) (hm : m < 128 ^ k) (hk : k = 9) (hb : b ≤ 1) :
    bits BinOp.or IntKind.u64 (m : Int) ((b : Int) % 128 * 9223372036854775808) = ((m + b % 128 * 128 ^ k : Nat) : Int) := by
  obtain ⟨h1, h2, h3⟩ := or_digit m b k hm (by omega) (by omega) (by omega)
  have e : ((b : Int) % 128 * 9223372036854775808) = ((b % 128 * 128 ^ k : Nat) : Int) := by subst hk; simp
  rw [e, or64 _ _ (by omega) h3, h2]
theorem scanV_eq {a b : Int} {c : Bool} {r : Nat × Nat × Bool} (h1 : a = r.1) (h2 : b = r.2.1) (h3 : c = r.2.2) : Ending.returned (.tuple #[.int .u64 a, .int .i64 b, .bool c]) = .returned (scanV r) := by
  subst h1; subst h2; subst h3; rfl
theorem pow_next (m b k : Nat) (hm : m < 128 ^ k) (hb : b < 256) : m + b % 128 * 128 ^ k < 128 ^ (k + 1) := by
  have h1 : b % 128 ≤ 127 := by omega
  have := Nat.mul_le_mul_right (128 ^ k) h1
  rw [Nat.pow_succ]; omega
theorem scanL_end {s : ByteArray} {at_ fuel k n : Nat} (hf : 0 < fuel) (h : s.size ≤ at_ + k ∨ 10 ≤ k) : scanL s at_ fuel k n = (0, 0, false) := by
  obtain ⟨f, rfl⟩ : ∃ f, fuel = f + 1 := ⟨fuel - 1, by omega⟩
  rw [scanL, if_pos h]
theorem scanL_over {s : ByteArray} {at_ fuel k n : Nat} (hf : 0 < fuel) (h1 : at_ + k < s.size) (h2 : k = 9) (h3 : 1 < byt s (at_ + k)) : scanL s at_ fuel k n = (0, 0, false) := by
  obtain ⟨f, rfl⟩ : ∃ f, fuel = f + 1 := ⟨fuel - 1, by omega⟩
  rw [scanL, if_neg (by omega), if_pos ⟨h2, h3⟩]
theorem scanL_last {s : ByteArray} {at_ fuel k n : Nat} (hf : 0 < fuel) (h1 : at_ + k < s.size) (hk : k < 10) (h2 : k = 9 → byt s (at_ + k) ≤ 1) (h3 : byt s (at_ + k) < 128) :
    scanL s at_ fuel k n = (n + byt s (at_ + k) % 128 * 128 ^ k, at_ + k + 1, decide (0 < byt s (at_ + k) ∨ k = 0)) := by
  obtain ⟨f, rfl⟩ : ∃ f, fuel = f + 1 := ⟨fuel - 1, by omega⟩
  rw [scanL, if_neg (by omega), if_neg (by omega), if_pos h3]
theorem scanL_more {s : ByteArray} {at_ fuel k n : Nat} (h1 : at_ + k < s.size) (hk : k < 10) (h2 : k = 9 → byt s (at_ + k) ≤ 1) (h3 : ¬ byt s (at_ + k) < 128) :
    scanL s at_ (fuel + 1) k n = scanL s at_ fuel (k + 1) (n + byt s (at_ + k) % 128 * 128 ^ k) := by
  rw [scanL, if_neg (by omega), if_neg (by omega), if_neg h3]

set_option maxRecDepth 100000 in
set_option maxHeartbeats 1000000 in
theorem scan_any (s : ByteArray) (rb : Nat) (at_ : Nat) (w : World) (c0 : w.cell? ⟨rb, 0, none⟩ = some (.string s)) (hs : s.size ≤ 1000000000) (ha : at_ ≤ 2000000000) :
    Calls Tryz.prog 116 #[.pointer (some ⟨rb, 0, none⟩), .int .i64 at_] w fun e w' => e = .returned (scanV (scanF s at_)) ∧ w = w' := by
  go_enter Tryz.func116, Tryz.ntmps116
  go_wp2
  go_loop [1, 7, 8] (fun a n sh => ∃ (k m fuel : Nat), a = .int .i64 ((at_ + k : Nat) : Int) ∧ n = .int .u64 m ∧ sh = .int .i64 ((7 * k : Nat) : Int) ∧ k ≤ 10 ∧ k + fuel = 11 ∧ m < 128 ^ k ∧ m < 18446744073709551616 ∧ scanL s at_ fuel k m = scanF s at_) (fun _ _ sh => 100 - (intOf sh).toNat)
  case atStart => exact ⟨0, 0, 11, rfl, rfl, rfl, by omega, by omega, by simp, by simp, rfl⟩
  case round =>
    obtain ⟨k, m, fuel, rfl, rfl, rfl, hk, hf, hm, hm2, hrec⟩ := hrel
    have HR := Hd.mk hrec; clear hrec
    have HM := Hd.mk hm; clear hm
    by_cases h1 : at_ + k < s.size
    · have hg : (s[at_ + k]'h1).toNat = byt s (at_ + k) := byt_get s _ h1
      have hb := byt_lt s (at_ + k)
      obtain ⟨b, hbe⟩ : ∃ b, byt s (at_ + k) = b := ⟨_, rfl⟩
      rw [hbe] at hg hb
      have HE := Hd.mk hbe; clear hbe
      by_cases h2 : k < 10
      · have ha7 := and127 b hb
        by_cases h3 : 9 ≤ k
        · have h3' : (((7 * k : Nat) : Int) == 63) = true := by simp; omega
          by_cases h6 : 1 < b
          · go_wp2
            go_ret3
            exact ⟨by rw [← HR.out, scanL_over (by omega) h1 (by omega) (by rw [HE.out]; exact h6)]; rfl, rfl⟩
          · have hlt : b < 128 := by omega
            have h0 : (((7 * k : Nat) : Int) == 0) = false := by simp; omega
            by_cases h5 : 0 < b
            · go_wp2
              go_ret3
              refine ⟨?_, rfl⟩
              rw [← HR.out, scanL_last (by omega) h1 h2 (by rw [HE.out]; omega) (by rw [HE.out]; omega), HE.out]
              exact scanV_eq (digit_val9 m b k HM.out (by omega) (by omega)) (by simp) (by simp [h5])
            · go_wp2
              go_ret3
              refine ⟨?_, rfl⟩
              rw [← HR.out, scanL_last (by omega) h1 h2 (by rw [HE.out]; omega) (by rw [HE.out]; omega), HE.out]
              refine scanV_eq (digit_val9 m b k HM.out (by omega) (by omega)) (by simp) (by simp; omega)
        · have h3' : (((7 * k : Nat) : Int) == 63) = false := by simp; omega
          have HX := Hd.mk (digit_val m b k HM.out (by omega) hb (by omega))
          by_cases h4 : b < 128
          · by_cases h5 : 0 < b
            · go_wp2
              go_ret3
              refine ⟨?_, rfl⟩
              rw [← HR.out, scanL_last (by omega) h1 h2 (by rw [HE.out]; omega) (by rw [HE.out]; omega), HE.out]
              exact scanV_eq HX.out (by simp) (by simp [h5])
            · by_cases h7 : 1 ≤ k
              · have h0 : (((7 * k : Nat) : Int) == 0) = false := by simp; omega
                go_wp2
                go_ret3
                refine ⟨?_, rfl⟩
                rw [← HR.out, scanL_last (by omega) h1 h2 (by rw [HE.out]; omega) (by rw [HE.out]; omega), HE.out]
                exact scanV_eq HX.out (by simp) (by rw [Bool.eq_iff_iff]; simp; omega)
              · have h0 : (((7 * k : Nat) : Int) == 0) = true := by simp; omega
                go_wp2
                go_ret3
                refine ⟨?_, rfl⟩
                rw [← HR.out, scanL_last (by omega) h1 h2 (by rw [HE.out]; omega) (by rw [HE.out]; omega), HE.out]
                exact scanV_eq HX.out (by simp) (by rw [Bool.eq_iff_iff]; simp; omega)
          · go_wp2
            go_round
            case rel =>
              obtain ⟨f, rfl⟩ : ∃ f, fuel = f + 1 := ⟨fuel - 1, by omega⟩
              have hp := pow_next m b k HM.out hb
              exact ⟨k + 1, m + b % 128 * 128 ^ k, f, by go_num, by rw [HX.out], by go_num, by omega, by omega, hp, (or_digit m b k HM.out (by omega) hb (by omega)).1, by rw [← HR.out, scanL_more h1 h2 (by rw [HE.out]; omega) (by rw [HE.out]; omega), HE.out]⟩
            case measure => simp [intOf]; omega
      · go_wp2
        go_ret3
        exact ⟨by rw [← HR.out, scanL_end (by omega) (by omega)]; rfl, rfl⟩
    · go_wp2
      all_goals go_ret3
      all_goals exact ⟨by rw [← HR.out, scanL_end (by omega) (by omega)]; rfl, rfl⟩
end Go.Proofs.YtfofapggmoibkaaGreatDoor
