/- SHA-256 over natural numbers: what both programs compute. The reference's SHA-256, walked. -/
import Derived.Test.YtfofapggmoibkaaGreatDoorFoundA
import Derived.Test.YtfofapggmoibkaaGreatDoorProg
import Derived.BigQuiet
import Derived.IntWalk
import Derived.Deep.QuietTactic
set_option linter.unusedVariables false
set_option linter.unusedSimpArgs false
namespace Go.Proofs.YtfofapggmoibkaaGreatDoor
open Go

def W32 : Nat := 4294967296
def rotr (x n : Nat) : Nat := (x / 2 ^ n) ||| (x * 2 ^ (32 - n) % W32)
theorem rotr_lt (x n : Nat) (hx : x < 4294967296) : rotr x n < 4294967296 := by
  refine Nat.or_lt_two_pow (n := 32) ?_ ?_
  · exact Nat.lt_of_le_of_lt (Nat.div_le_self _ _) (by simpa using hx)
  · exact Nat.mod_lt _ (by decide)
theorem c_div (x n : Nat) : ((x : Int) / 2 ^ n) = ((x / 2 ^ n : Nat) : Int) := by simp
theorem c_mod (x : Nat) : ((x : Int) % 4294967296) = ((x % W32 : Nat) : Int) := by simp [W32]
theorem rotr_val (x n : Nat) (hx : x < 4294967296) (hn : n ≤ 32) :
    bits BinOp.or IntKind.u32 ((x : Int) / 2 ^ n) ((x : Int) * 2 ^ (32 - n) % 4294967296) = ((rotr x n : Nat) : Int) := by
  rw [c_div, show ((x : Int) * 2 ^ (32 - n)) = ((x * 2 ^ (32 - n) : Nat) : Int) by simp, c_mod, or32]
  · rfl
  · exact Nat.lt_of_le_of_lt (Nat.div_le_self _ _) hx
  · exact Nat.mod_lt _ (by decide)

def add32 (a b : Nat) : Nat := (a + b) % W32
theorem add32_lt (a b : Nat) : add32 a b < 4294967296 := Nat.mod_lt _ (by decide)
def xor32n (a b : Nat) : Nat := a ^^^ b
theorem xor_lt {a b : Nat} (ha : a < 4294967296) (hb : b < 4294967296) : a ^^^ b < 4294967296 := Nat.xor_lt_two_pow (n := 32) (by simpa using ha) (by simpa using hb)
theorem and_lt {a b : Nat} (hb : b < 4294967296) : a &&& b < 4294967296 := Nat.and_lt_two_pow (n := 32) a (by simpa using hb)
def ssig0 (x : Nat) : Nat := rotr x 7 ^^^ rotr x 18 ^^^ x / 8
def ssig1 (x : Nat) : Nat := rotr x 17 ^^^ rotr x 19 ^^^ x / 1024
def bsig0 (x : Nat) : Nat := rotr x 2 ^^^ rotr x 13 ^^^ rotr x 22
def bsig1 (x : Nat) : Nat := rotr x 6 ^^^ rotr x 11 ^^^ rotr x 25
def choose (e f g : Nat) : Nat := (e &&& f) ^^^ ((4294967295 ^^^ e) &&& g)
def major (a b c : Nat) : Nat := (a &&& b) ^^^ (a &&& c) ^^^ (b &&& c)
theorem ssig0_lt (x : Nat) (h : x < 4294967296) : ssig0 x < 4294967296 := xor_lt (xor_lt (rotr_lt _ _ h) (rotr_lt _ _ h)) (by omega)
theorem ssig1_lt (x : Nat) (h : x < 4294967296) : ssig1 x < 4294967296 := xor_lt (xor_lt (rotr_lt _ _ h) (rotr_lt _ _ h)) (by omega)
theorem bsig0_lt (x : Nat) (h : x < 4294967296) : bsig0 x < 4294967296 := xor_lt (xor_lt (rotr_lt _ _ h) (rotr_lt _ _ h)) (rotr_lt _ _ h)
theorem bsig1_lt (x : Nat) (h : x < 4294967296) : bsig1 x < 4294967296 := xor_lt (xor_lt (rotr_lt _ _ h) (rotr_lt _ _ h)) (rotr_lt _ _ h)
theorem add_val (x y : Nat) : IntKind.u32.wrap ((x : Int) + (y : Int)) = ((add32 x y : Nat) : Int) := by
  rw [show (x : Int) + (y : Int) = ((x + y : Nat) : Int) by simp, wrap_u _ rfl]; rfl
theorem add_mod (x y : Nat) : ((x : Int) + (y : Int)) % 4294967296 = ((add32 x y : Nat) : Int) := by
  rw [show (x : Int) + (y : Int) = ((x + y : Nat) : Int) by simp, c_mod]; rfl
theorem ssig0_val (x : Nat) (h : x < 4294967296) : bits BinOp.xor IntKind.u32 (bits BinOp.xor IntKind.u32 ((rotr x 7 : Nat) : Int) ((rotr x 18 : Nat) : Int)) ((x : Int) / 8) = ((ssig0 x : Nat) : Int) := by
  rw [show (x : Int) / 8 = ((x / 8 : Nat) : Int) by simp, xor32 _ _ (rotr_lt _ _ h) (rotr_lt _ _ h), xor32 _ _ (xor_lt (rotr_lt _ _ h) (rotr_lt _ _ h)) (by omega)]; rfl
theorem ssig1_val (x : Nat) (h : x < 4294967296) : bits BinOp.xor IntKind.u32 (bits BinOp.xor IntKind.u32 ((rotr x 17 : Nat) : Int) ((rotr x 19 : Nat) : Int)) ((x : Int) / 1024) = ((ssig1 x : Nat) : Int) := by
  rw [show (x : Int) / 1024 = ((x / 1024 : Nat) : Int) by simp, xor32 _ _ (rotr_lt _ _ h) (rotr_lt _ _ h), xor32 _ _ (xor_lt (rotr_lt _ _ h) (rotr_lt _ _ h)) (by omega)]; rfl
theorem bsig0_val (x : Nat) (h : x < 4294967296) : bits BinOp.xor IntKind.u32 (bits BinOp.xor IntKind.u32 ((rotr x 2 : Nat) : Int) ((rotr x 13 : Nat) : Int)) ((rotr x 22 : Nat) : Int) = ((bsig0 x : Nat) : Int) := by
  rw [xor32 _ _ (rotr_lt _ _ h) (rotr_lt _ _ h), xor32 _ _ (xor_lt (rotr_lt _ _ h) (rotr_lt _ _ h)) (rotr_lt _ _ h)]; rfl
theorem bsig1_val (x : Nat) (h : x < 4294967296) : bits BinOp.xor IntKind.u32 (bits BinOp.xor IntKind.u32 ((rotr x 6 : Nat) : Int) ((rotr x 11 : Nat) : Int)) ((rotr x 25 : Nat) : Int) = ((bsig1 x : Nat) : Int) := by
  rw [xor32 _ _ (rotr_lt _ _ h) (rotr_lt _ _ h), xor32 _ _ (xor_lt (rotr_lt _ _ h) (rotr_lt _ _ h)) (rotr_lt _ _ h)]; rfl
theorem major_val (a b c : Nat) (ha : a < 4294967296) (hb : b < 4294967296) (hc : c < 4294967296) :
    bits BinOp.xor IntKind.u32 (bits BinOp.xor IntKind.u32 (bits BinOp.and IntKind.u32 (a : Int) (b : Int)) (bits BinOp.and IntKind.u32 (a : Int) (c : Int))) (bits BinOp.and IntKind.u32 (b : Int) (c : Int)) = ((major a b c : Nat) : Int) := by
  rw [and32 _ _ ha hb, and32 _ _ ha hc, and32 _ _ hb hc, xor32 _ _ (and_lt hb) (and_lt hc), xor32 _ _ (xor_lt (and_lt hb) (and_lt hc)) (and_lt hc)]; rfl
theorem choose_val (e f g : Nat) (he : e < 4294967296) (hf : f < 4294967296) (hg : g < 4294967296) :
    bits BinOp.xor IntKind.u32 (bits BinOp.and IntKind.u32 (e : Int) (f : Int)) (bits BinOp.and IntKind.u32 (bits BinOp.xor IntKind.u32 4294967295 (e : Int)) (g : Int)) = ((choose e f g : Nat) : Int) := by
  have h := xor32 4294967295 e (by omega) he
  rw [show ((4294967295 : Nat) : Int) = 4294967295 from rfl] at h
  rw [h, and32 _ _ he hf, and32 _ _ (xor_lt (by omega) he) hg, xor32 _ _ (and_lt hf) (and_lt hg)]; rfl
/-- the constants of the rounds -/
def shaK : List Nat := [0x428a2f98, 0x71374491, 0xb5c0fbcf, 0xe9b5dba5, 0x3956c25b, 0x59f111f1, 0x923f82a4, 0xab1c5ed5, 0xd807aa98, 0x12835b01, 0x243185be, 0x550c7dc3, 0x72be5d74, 0x80deb1fe, 0x9bdc06a7, 0xc19bf174, 0xe49b69c1, 0xefbe4786, 0x0fc19dc6, 0x240ca1cc, 0x2de92c6f, 0x4a7484aa, 0x5cb0a9dc, 0x76f988da, 0x983e5152, 0xa831c66d, 0xb00327c8, 0xbf597fc7, 0xc6e00bf3, 0xd5a79147, 0x06ca6351, 0x14292967, 0x27b70a85, 0x2e1b2138, 0x4d2c6dfc, 0x53380d13, 0x650a7354, 0x766a0abb, 0x81c2c92e, 0x92722c85, 0xa2bfe8a1, 0xa81a664b, 0xc24b8b70, 0xc76c51a3, 0xd192e819, 0xd6990624, 0xf40e3585, 0x106aa070, 0x19a4c116, 0x1e376c08, 0x2748774c, 0x34b0bcb5, 0x391c0cb3, 0x4ed8aa4a, 0x5b9cca4f, 0x682e6ff3, 0x748f82ee, 0x78a5636f, 0x84c87814, 0x8cc70208, 0x90befffa, 0xa4506ceb, 0xbef9a3f7, 0xc67178f2]
theorem shaK_lt : ∀ x ∈ shaK, x < 4294967296 := by decide
/-- word i of a block -/
def wordAt (b : ByteArray) (i : Nat) : Nat := byt b (4 * i) * 16777216 + byt b (4 * i + 1) * 65536 + byt b (4 * i + 2) * 256 + byt b (4 * i + 3)
theorem wordAt_lt (b : ByteArray) (i : Nat) : wordAt b i < 4294967296 := by
  have h0 := byt_lt b (4 * i)
  have h1 := byt_lt b (4 * i + 1)
  have h2 := byt_lt b (4 * i + 2)
  have h3 := byt_lt b (4 * i + 3)
  unfold wordAt
  omega
theorem word_or (b : ByteArray) (m : Nat) : bits BinOp.or IntKind.u32 (bits BinOp.or IntKind.u32 (bits BinOp.or IntKind.u32 ((byt b m * 16777216 : Nat) : Int) ((byt b (m + 1) * 65536 : Nat) : Int)) ((byt b (m + 2) * 256 : Nat) : Int)) ((byt b (m + 3) : Nat) : Int) =
    ((byt b m * 16777216 + byt b (m + 1) * 65536 + byt b (m + 2) * 256 + byt b (m + 3) : Nat) : Int) := by
  have h0 := byt_lt b m
  have h1 := byt_lt b (m + 1)
  have h2 := byt_lt b (m + 2)
  have h3 := byt_lt b (m + 3)
  generalize byt b m = x0 at *
  generalize byt b (m + 1) = x1 at *
  generalize byt b (m + 2) = x2 at *
  generalize byt b (m + 3) = x3 at *
  have e1 : x0 * 16777216 ||| x1 * 65536 = x0 * 16777216 + x1 * 65536 := by
    have := Nat.two_pow_add_eq_or_of_lt (i := 24) (b := x1 * 65536) (by omega) x0
    rw [show x0 * 16777216 = 2 ^ 24 * x0 by omega, ← this]
  have e2 : (x0 * 16777216 + x1 * 65536) ||| x2 * 256 = x0 * 16777216 + x1 * 65536 + x2 * 256 := by
    have := Nat.two_pow_add_eq_or_of_lt (i := 16) (b := x2 * 256) (by omega) (x0 * 256 + x1)
    rw [show x0 * 16777216 + x1 * 65536 = 2 ^ 16 * (x0 * 256 + x1) by omega, ← this]
  have e3 : (x0 * 16777216 + x1 * 65536 + x2 * 256) ||| x3 = x0 * 16777216 + x1 * 65536 + x2 * 256 + x3 := by
    have := Nat.two_pow_add_eq_or_of_lt (i := 8) (b := x3) (by omega) (x0 * 65536 + x1 * 256 + x2)
    rw [show x0 * 16777216 + x1 * 65536 + x2 * 256 = 2 ^ 8 * (x0 * 65536 + x1 * 256 + x2) by omega, ← this]
  rw [or32 _ _ (by omega) (by omega), e1, or32 _ _ (by omega) (by omega), e2, or32 _ _ (by omega) (by omega), e3]
theorem word_or' (b : ByteArray) (m : Nat) : bits BinOp.or IntKind.u32 (bits BinOp.or IntKind.u32 (bits BinOp.or IntKind.u32 (((byt b m : Nat) : Int) * 16777216) (((byt b (m + 1) : Nat) : Int) * 65536)) (((byt b (m + 2) : Nat) : Int) * 256)) ((byt b (m + 3) : Nat) : Int) =
    ((byt b m * 16777216 + byt b (m + 1) * 65536 + byt b (m + 2) * 256 + byt b (m + 3) : Nat) : Int) := by
  have h := word_or b m
  rw [← h]
  simp
def nextW (w : List Nat) (i : Nat) : Nat := add32 (add32 (add32 (ssig1 (w.getD (i - 2) 0)) (w.getD (i - 7) 0)) (ssig0 (w.getD (i - 15) 0))) (w.getD (i - 16) 0)
/-- the first i words of the schedule -/
def sched (b : ByteArray) : Nat → List Nat
  | 0 => []
  | i + 1 => sched b i ++ [if i < 16 then wordAt b i else nextW (sched b i) i]
theorem sched_len (b : ByteArray) (i : Nat) : (sched b i).length = i := by
  induction i with
  | zero => rfl
  | succ i ih => simp [sched, ih]
theorem sched_lt (b : ByteArray) (i : Nat) : ∀ x ∈ sched b i, x < 4294967296 := by
  induction i with
  | zero => intro x h; simp [sched] at h
  | succ i ih =>
    intro x h
    simp only [sched, List.mem_append, List.mem_singleton] at h
    rcases h with h | h
    · exact ih x h
    · subst h
      split
      · exact wordAt_lt b i
      · exact add32_lt _ _
structure St where
  a : Nat
  b : Nat
  c : Nat
  d : Nat
  e : Nat
  f : Nat
  g : Nat
  h : Nat
def stL (s : St) : List Nat := [s.a, s.b, s.c, s.d, s.e, s.f, s.g, s.h]
structure St.ok (s : St) : Prop where
  a : s.a < 4294967296
  b : s.b < 4294967296
  c : s.c < 4294967296
  d : s.d < 4294967296
  e : s.e < 4294967296
  f : s.f < 4294967296
  g : s.g < 4294967296
  h : s.h < 4294967296
def t1of (s : St) (k w : Nat) : Nat := add32 (add32 (add32 (add32 s.h (bsig1 s.e)) (choose s.e s.f s.g)) k) w
def t2of (s : St) : Nat := add32 (bsig0 s.a) (major s.a s.b s.c)
def stepS (s : St) (k w : Nat) : St := ⟨add32 (t1of s k w) (t2of s), s.a, s.b, s.c, add32 s.d (t1of s k w), s.e, s.f, s.g⟩
theorem stepS_ok {s : St} (h : s.ok) (k w : Nat) : (stepS s k w).ok := ⟨add32_lt _ _, h.a, h.b, h.c, add32_lt _ _, h.e, h.f, h.g⟩
/-- after i rounds -/
def roundsS (s : St) (w : List Nat) : Nat → St
  | 0 => s
  | i + 1 => stepS (roundsS s w i) (shaK.getD i 0) (w.getD i 0)
theorem roundsS_ok {s : St} (h : s.ok) (w : List Nat) (i : Nat) : (roundsS s w i).ok := by
  induction i with
  | zero => exact h
  | succ i ih => exact stepS_ok ih _ _
def addS (s t : St) : St := ⟨add32 s.a t.a, add32 s.b t.b, add32 s.c t.c, add32 s.d t.d, add32 s.e t.e, add32 s.f t.f, add32 s.g t.g, add32 s.h t.h⟩
theorem addS_ok (s t : St) : (addS s t).ok := ⟨add32_lt _ _, add32_lt _ _, add32_lt _ _, add32_lt _ _, add32_lt _ _, add32_lt _ _, add32_lt _ _, add32_lt _ _⟩
def compressS (s : St) (b : ByteArray) : St := addS s (roundsS s (sched b 64) 64)
def initS : St := ⟨0x6a09e667, 0xbb67ae85, 0x3c6ef372, 0xa54ff53a, 0x510e527f, 0x9b05688c, 0x1f83d9ab, 0x5be0cd19⟩
theorem initS_ok : initS.ok := by constructor <;> decide
/-- blocks i to n - 1 of p -/
def foldS (p : ByteArray) : Nat → St
  | 0 => initS
  | n + 1 => compressS (foldS p n) (p.extract (64 * n) (64 * n + 64))
theorem foldS_ok (p : ByteArray) (n : Nat) : (foldS p n).ok := by
  cases n with
  | zero => exact initS_ok
  | succ n => exact addS_ok _ _
def be4 (x : Nat) : List UInt8 := [UInt8.ofNat (x / 16777216), UInt8.ofNat (x / 65536), UInt8.ofNat (x / 256), UInt8.ofNat x]
def outS (s : St) : ByteArray := ⟨(be4 s.a ++ be4 s.b ++ be4 s.c ++ be4 s.d ++ be4 s.e ++ be4 s.f ++ be4 s.g ++ be4 s.h).toArray⟩
/-- 8 bytes, most significant first -/
def be8 (n : Nat) : List UInt8 := [UInt8.ofNat (n / 72057594037927936), UInt8.ofNat (n / 281474976710656), UInt8.ofNat (n / 1099511627776), UInt8.ofNat (n / 4294967296), UInt8.ofNat (n / 16777216), UInt8.ofNat (n / 65536), UInt8.ofNat (n / 256), UInt8.ofNat n]
/-- how many zeros the padding bears -/
def zerosOf (n : Nat) : Nat := (119 - n % 64) % 64
def padded (s : ByteArray) : ByteArray := ⟨(s.data.toList ++ 128 :: List.replicate (zerosOf s.size) 0 ++ be8 (8 * s.size)).toArray⟩
theorem padded_size (s : ByteArray) : (padded s).size = s.size + 9 + zerosOf s.size := by
  show (ByteArray.mk _).size = _
  rw [ba_size]
  simp only [List.length_append, List.length_cons, List.length_replicate, be8, List.length_nil, data_len]
  omega
theorem padded_mod (s : ByteArray) : (padded s).size % 64 = 0 := by rw [padded_size]; unfold zerosOf; omega
/-- SHA-256 -/
def sha (s : ByteArray) : ByteArray := outS (foldS (padded s) ((padded s).size / 64))
theorem sha_size (s : ByteArray) : (sha s).size = 32 := by
  show (ByteArray.mk _).size = _
  rw [ba_size]
  simp [be4]
end Go.Proofs.YtfofapggmoibkaaGreatDoor
namespace Go.Proofs.YtfofapggmoibkaaGreatDoor
open Go Go.RowKit

set_option maxHeartbeats 400000 in
theorem rotr_any (x n : Nat) (w : World) (hx : x < 4294967296) (hn : n ≤ 32) :
    Calls Tryz.prog 115 #[.int .u32 x, .int .i64 n] w fun e w' => e = .returned (.int .u32 (rotr x n)) ∧ Drawn w w' := by
  go_enter Tryz.func115, Tryz.ntmps115
  go_wp2
  go_quiet (fail)
  go_wp2
  go_ret
  exact ⟨congrArg Ending.returned (vint (rotr_val x n hx hn)), _, rfl⟩

def u32s (l : List Nat) : List Value := l.map fun (x : Nat) => .int .u32 (x : Int)
theorem u32s_length (l : List Nat) : (u32s l).length = l.length := by simp [u32s]
theorem u32s_snoc (l : List Nat) (x : Nat) (v : Int) (h : v = (x : Int)) : u32s l ++ [.int .u32 v] = u32s (l ++ [x]) := by simp [u32s, h]
theorem own_empty (W : World) (base : Nat) (e : TypeId) (hb : base ≤ W.heap.size) : (W.alloc (.cells #[] e)).ownsRow base e 1 (.slice (some ⟨W.heap.size, 0, none⟩) 0 0) 0 [] :=
  ⟨rfl, .inr ⟨W.heap.size, 0, #[], rfl, hb, heap_alloc_new _ _, Nat.le_refl _, by decide, rfl, rfl⟩⟩
theorem info_u32 : (Tryz.prog.info? 112).map (fun i => (i.zero, i.size, i.bytes)) = some (some (Value.int .u32 0), 1, 4) := by kernel_rfl

set_option maxRecDepth 100000 in
set_option maxHeartbeats 8000000 in
theorem schedule_any (b : ByteArray) (hb : b.size = 64) (w : World) :
    Calls Tryz.prog 113 #[.string b] w fun e w' => ∃ v, e = .returned v ∧ w'.ownsRow w.heap.size 112 1 v 64 (u32s (sched b 64)) ∧ Ext w w' := by
  have HB := Hd.mk hb; clear hb
  go_enter Tryz.func113, Tryz.ntmps113
  go_wp2
  go_loopw [3, 4] (fun v i wr => ∃ (j m : Nat), i = .int .i64 (m : Int) ∧ m ≤ 64 ∧ m = 4 * j ∧ wr.ownsRow w.heap.size 112 1 v j (u32s (sched b j)) ∧ Ext w wr) (fun _ i _ => 100 - (intOf i).toNat)
  case atStart => exact ⟨0, 0, rfl, by omega, rfl, by simpa [u32s, sched] using own_empty w _ _ (Nat.le_refl _), (Ext.refl w).alloc _⟩
  case round =>
    obtain ⟨j, m, rfl, hm, hj, hown, hext⟩ := hrel
    have hb0 := hext.size
    have HJ := Hd.mk hj
    by_cases hlt : m < 64
    · have hjl : j ≤ 1000 := by omega
      have l0 : m < b.size := by rw [HB.out]; omega
      have l1 : m + 1 < b.size := by rw [HB.out]; omega
      have l2 : m + 2 < b.size := by rw [HB.out]; omega
      have l3 : m + 3 < b.size := by rw [HB.out]; omega
      have g0 := byt_get b _ l0
      have g1 := byt_get b _ l1
      have g2 := byt_get b _ l2
      have g3 := byt_get b _ l3
      have k0 := byt_lt b m
      have k1 := byt_lt b (m + 1)
      have k2 := byt_lt b (m + 2)
      have k3 := byt_lt b (m + 3)
      clear hj
      go_wp2
      have i0 : (m : Int) < (b.size : Int) := by omega
      have i1 : (m : Int) + 1 < (b.size : Int) := by omega
      have i2 : (m : Int) + 2 < (b.size : Int) := by omega
      have i3 : (m : Int) + 3 < (b.size : Int) := by omega
      have j0 : (0 : Int) ≤ (m : Int) := by omega
      have j1 : (0 : Int) ≤ (m : Int) + 1 := by omega
      have j2 : (0 : Int) ≤ (m : Int) + 2 := by omega
      have j3 : (0 : Int) ≤ (m : Int) + 3 := by omega
      have n1 : ((m : Int) + 1).toNat = m + 1 := by omega
      have n2 : ((m : Int) + 2).toNat = m + 2 := by omega
      have n3 : ((m : Int) + 3).toNat = m + 3 := by omega
      have x1 : IntKind.i64.wrap ((m : Int) + 1) = (m : Int) + 1 := IntWalk.i64_in _ (by omega)
      have x2 : IntKind.i64.wrap ((m : Int) + 2) = (m : Int) + 2 := IntWalk.i64_in _ (by omega)
      have x3 : IntKind.i64.wrap ((m : Int) + 3) = (m : Int) + 3 := IntWalk.i64_in _ (by omega)
      have e0 : IntKind.u32.wrap ((byt b m : Nat) : Int) = ((byt b m : Nat) : Int) := by rw [wrap_u _ rfl]; simp only [IntKind.bits]; omega
      have e1 : IntKind.u32.wrap ((byt b (m + 1) : Nat) : Int) = ((byt b (m + 1) : Nat) : Int) := by rw [wrap_u _ rfl]; simp only [IntKind.bits]; omega
      have e2 : IntKind.u32.wrap ((byt b (m + 2) : Nat) : Int) = ((byt b (m + 2) : Nat) : Int) := by rw [wrap_u _ rfl]; simp only [IntKind.bits]; omega
      have e3 : IntKind.u32.wrap ((byt b (m + 3) : Nat) : Int) = ((byt b (m + 3) : Nat) : Int) := by rw [wrap_u _ rfl]; simp only [IntKind.bits]; omega
      have s0 : IntKind.u32.wrap (((byt b m : Nat) : Int) * 16777216) = ((byt b m * 16777216 : Nat) : Int) := by rw [show ((byt b m : Nat) : Int) * 16777216 = ((byt b m * 16777216 : Nat) : Int) by simp, wrap_u _ rfl]; simp only [IntKind.bits]; omega
      have s1 : IntKind.u32.wrap (((byt b (m + 1) : Nat) : Int) * 65536) = ((byt b (m + 1) * 65536 : Nat) : Int) := by rw [show ((byt b (m + 1) : Nat) : Int) * 65536 = ((byt b (m + 1) * 65536 : Nat) : Int) by simp, wrap_u _ rfl]; simp only [IntKind.bits]; omega
      have s2 : IntKind.u32.wrap (((byt b (m + 2) : Nat) : Int) * 256) = ((byt b (m + 2) * 256 : Nat) : Int) := by rw [show ((byt b (m + 2) : Nat) : Int) * 256 = ((byt b (m + 2) * 256 : Nat) : Int) by simp, wrap_u _ rfl]; simp only [IntKind.bits]; omega
      refine wp_region_pi (fun _ => True) [(true, 0), (true, 1), (true, 2), (true, 3), (true, 4), (true, 5), (true, 6), (true, 7), (true, 8), (true, 9), (true, 10), (true, 11), (true, 12), (true, 13), (true, 14), (true, 15), (true, 16), (true, 17), (true, 18), (true, 19), (true, 20), (true, 21), (true, 22), (true, 23), (true, 24), (true, 25), (false, 26), (false, 27), (true, 28)] (by kernel_rfl) (by kernel_rfl) (by intro c a d v w h; cases d <;> exact h) ?_
      iterate 26 (refine pi_still rfl trivial rfl (fun w' hS => by go_simp; rfl) ?_; intro K hK; go_simp; refine hK _ _ ?_; clear hK K)
      refine pi_act rfl rfl ?_; intro K hK; go_simp; refine hK _ _ trivial ?_; clear hK K
      refine pi_act rfl rfl ?_; intro K hK; refine wpApp1 w.heap.size _ _ _ 112 (.int .u32 0) 4 rfl Tryz.underlying113 info_u32 rfl ((hown.alloc _).drew) (heap_alloc_new wr _) rfl rfl rfl (by simp; omega) (by omega) (by omega) ?_; intro v1 w1 hown1 hgrow _; go_simp; refine hK _ _ trivial ?_; clear hK K
      refine pi_still rfl trivial rfl (fun w' hS => by go_simp; rfl) ?_; intro K hK; go_simp; refine hK _ _ ?_; clear hK K
      refine pi_nil ?_
      clear x1 x2 x3 e0 e1 e2 e3 s0 s1 s2
      go_wp2
      go_roundw
      case rel =>
        refine ⟨j + 1, m + 4, vint (by simp), by have := HJ.out; omega, by have := HJ.out; omega, ?_, ((hext.alloc _).drew).grown hgrow (own_base hown)⟩
        rw [u32s_snoc _ (wordAt b j) _ (by rw [word_or']; simp only [wordAt, HJ.out])] at hown1
        rw [sched, if_pos (by have := HJ.out; omega)]
        exact hown1
      case measure => simp only [intOf]; omega
    · obtain rfl : j = 16 := by omega
      clear hj HJ
      go_wp2
      go_loopw [3, 5] (fun v i wr => ∃ (j : Nat), i = .int .i64 (j : Int) ∧ 16 ≤ j ∧ j ≤ 64 ∧ wr.ownsRow w.heap.size 112 1 v j (u32s (sched b j)) ∧ Ext w wr) (fun _ i _ => 100 - (intOf i).toNat)
      case atStart => exact ⟨16, rfl, by omega, by omega, hown, hext⟩
      case round =>
        clear hown hext hb0
        obtain ⟨i, rfl, hi0, hi1, hown, hext⟩ := hrel
        have hb0 := hext.size
        by_cases hlt2 : i < 64
        · obtain ⟨k, rfl⟩ : ∃ k, i = k + 16 := ⟨i - 16, by omega⟩
          obtain ⟨g, cap, rfl, _⟩ := hown.form (by omega)
          have hcell : ∀ j, j < k + 16 → wr.cell? ⟨g, j, none⟩ = some (.int .u32 (((sched b (k + 16)).getD j 0 : Nat) : Int)) ∧ Hd ((sched b (k + 16)).getD j 0 < 4294967296) ∧ Hd ((u32s (sched b (k + 16)))[j]? = some (.int .u32 (((sched b (k + 16)).getD j 0 : Nat) : Int))) := fun j hj => by
            have hl : j < (sched b (k + 16)).length := by rw [sched_len]; exact hj
            have e : (sched b (k + 16)).getD j 0 = (sched b (k + 16))[j] := by rw [List.getD_eq_getElem?_getD, List.getElem?_eq_getElem hl]; rfl
            rw [e]
            exact ⟨own_cell hown (by simp [u32s, List.getElem?_eq_getElem hl]), Hd.mk (sched_lt _ _ _ (List.getElem_mem hl)), Hd.mk (by simp [u32s, List.getElem?_eq_getElem hl])⟩
          obtain ⟨c1, b1, _⟩ := hcell (k + 1) (by omega)
          obtain ⟨c14, b14, _⟩ := hcell (k + 14) (by omega)
          obtain ⟨c9, b9, D9⟩ := hcell (k + 9) (by omega)
          obtain ⟨c0, b0, D0⟩ := hcell k (by omega)
          have hnw : nextW (sched b (k + 16)) (k + 16) = add32 (add32 (add32 (ssig1 ((sched b (k + 16)).getD (k + 14) 0)) ((sched b (k + 16)).getD (k + 9) 0)) (ssig0 ((sched b (k + 16)).getD (k + 1) 0))) ((sched b (k + 16)).getD k 0) := by
            simp [nextW]
          generalize (sched b (k + 16)).getD (k + 1) 0 = a1 at *
          generalize (sched b (k + 16)).getD (k + 14) 0 = a14 at *
          generalize (sched b (k + 16)).getD (k + 9) 0 = a9 at *
          generalize (sched b (k + 16)).getD k 0 = a0 at *
          have HN := Hd.mk hnw; clear hnw hcell
          go_wp2
          have i1 : (0 : Int) ≤ (k : Int) + 1 := by omega
          have i2 : (k : Int) + 1 < (k : Int) + 16 := by omega
          have i3 : (0 : Int) ≤ (k : Int) + 14 := by omega
          have i4 : (k : Int) + 14 < (k : Int) + 16 := by omega
          have i5 : (0 : Int) ≤ (k : Int) + 9 := by omega
          have i6 : (k : Int) + 9 < (k : Int) + 16 := by omega
          have i7 : (0 : Int) ≤ (k : Int) := by omega
          have i8 : (k : Int) < (k : Int) + 16 := by omega
          have n1 : ((k : Int) + 1).toNat = k + 1 := by omega
          have n2 : ((k : Int) + 14).toNat = k + 14 := by omega
          have n3 : ((k : Int) + 9).toNat = k + 9 := by omega
          have x1 : IntKind.i64.wrap ((k : Int) + 16 - 15) = (k : Int) + 1 := by rw [show (k : Int) + 16 - 15 = (k : Int) + 1 by omega]; exact IntWalk.i64_in _ (by omega)
          have v2 : IntKind.i64.wrap ((k : Int) + 16 - 2) = (k : Int) + 14 := by rw [show (k : Int) + 16 - 2 = (k : Int) + 14 by omega]; exact IntWalk.i64_in _ (by omega)
          have v3 : IntKind.i64.wrap ((k : Int) + 16 - 7) = (k : Int) + 9 := by rw [show (k : Int) + 16 - 7 = (k : Int) + 9 by omega]; exact IntWalk.i64_in _ (by omega)
          have v4 : IntKind.i64.wrap ((k : Int) + 16 - 16) = (k : Int) := by rw [show (k : Int) + 16 - 16 = (k : Int) by omega]; exact IntWalk.i64_in _ (by omega)
          have v5 : IntKind.i64.wrap (k : Int) = (k : Int) := IntWalk.i64_in _ (by omega)
          have hadd := add_val
          have hE0 := ssig0_val a1 b1.out
          have hE1 := ssig1_val a14 b14.out
          refine wp_region_pi (fun w' => w'.cell? ⟨g, k + 1, none⟩ = some (.int .u32 (a1 : Int)) ∧ w'.cell? ⟨g, k + 14, none⟩ = some (.int .u32 (a14 : Int))) [(true, 0), (true, 1), (true, 2), (true, 3), (true, 4), (true, 5), (true, 6), (true, 7), (true, 8), (true, 9), (true, 10), (true, 11)] (by kernel_rfl) (by kernel_rfl) (by intro c a d v w h; cases d <;> exact h) ?_
          iterate 12 (refine pi_still rfl ⟨c1, c14⟩ rfl (fun w' hS => by obtain ⟨s1, s2⟩ := hS; go_simp; rfl) ?_; intro K hK; go_simp; refine hK _ _ ?_; clear hK K)
          refine pi_nil ?_
          go_wp2_with fail
          refine (rotr_any a1 7 _ b1.out (by omega)).mono ?_; rintro e _ ⟨rfl, n1, rfl⟩
          go_wp2_with fail
          refine (rotr_any a1 18 _ b1.out (by omega)).mono ?_; rintro e _ ⟨rfl, n2, rfl⟩
          go_wp2_with fail
          refine (rotr_any a14 17 _ b14.out (by omega)).mono ?_; rintro e _ ⟨rfl, n3, rfl⟩
          go_wp2_with fail
          refine (rotr_any a14 19 _ b14.out (by omega)).mono ?_; rintro e _ ⟨rfl, n4, rfl⟩
          go_wp2_with fail
          refine wp_region_pi (fun w' => w'.cell? ⟨g, k + 9, none⟩ = some (.int .u32 (a9 : Int)) ∧ w'.cell? ⟨g, k, none⟩ = some (.int .u32 (a0 : Int))) [(true, 0), (true, 1), (true, 2), (true, 3), (true, 4), (true, 5), (true, 6), (true, 7), (true, 8), (true, 9), (true, 10), (true, 11), (true, 12), (true, 13), (true, 14), (true, 15), (false, 16), (false, 17), (true, 18)] (by kernel_rfl) (by kernel_rfl) (by intro c a d v w h; cases d <;> exact h) ?_
          iterate 16 (refine pi_still rfl ⟨c9, c0⟩ rfl (fun w' hS => by obtain ⟨s1, s2⟩ := hS; go_simp; rfl) ?_; intro K hK; go_simp; refine hK _ _ ?_; clear hK K)
          refine pi_act rfl rfl ?_; intro K hK; go_simp; refine hK _ _ ⟨(Ext.refl wr).alloc _ |>.cell c9, (Ext.refl wr).alloc _ |>.cell c0⟩ ?_; clear hK K
          refine pi_act rfl rfl ?_; intro K hK; refine wpApp1 w.heap.size _ _ _ 112 (.int .u32 0) 4 rfl Tryz.underlying113 info_u32 rfl (hown.alloc _) (heap_alloc_new wr _) rfl rfl rfl (by simp; omega) (by omega) (by omega) ?_; intro v1 w1 hown1 hgrow hold; go_simp; refine hK _ _ ⟨own_cell hold D9.out, own_cell hold D0.out⟩ ?_; clear hK K
          refine pi_still rfl ⟨own_cell hold D9.out, own_cell hold D0.out⟩ rfl (fun w' hS => by go_simp; rfl) ?_; intro K hK; go_simp; refine hK _ _ ?_; clear hK K
          refine pi_nil ?_
          clear hold hE0 hE1 hadd x1 v2 v3 v4 v5
          go_wp2
          go_roundw
          case rel =>
            refine ⟨k + 17, vint (by simp; omega), by omega, by omega, ?_, (hext.trans (((Ext.refl wr).drewN _).alloc _)).grown hgrow (own_base hown)⟩
            rw [u32s_snoc _ (nextW (sched b (k + 16)) (k + 16)) _ (by rw [HN.out])] at hown1
            rw [sched, if_neg (by omega)]
            exact hown1
          case measure => simp only [intOf]; omega
        · obtain rfl : i = 64 := by omega
          go_wp2
          go_ret
          exact ⟨_, rfl, hown, hext⟩
end Go.Proofs.YtfofapggmoibkaaGreatDoor
