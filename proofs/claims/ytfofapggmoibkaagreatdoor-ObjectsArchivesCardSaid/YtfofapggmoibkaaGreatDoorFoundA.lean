/- Small laws that the walks of this claim use: what was there stays, append of one cell, bytes as a string. Bytes of a string as numbers. Arithmetic of Go's unsigned kinds, over natural numbers. A region that draws its order, walked along one plan that the kernel checks: an operation that only reads is taken as soon as it may come up; any other comes up alone. -/
import Derived.WalkKit
import Derived.WalkSpells
import Derived.WalkLawsBesides
import Derived.Outline
import Derived.OwnWalk
import Derived.Lib.Hide
import Derived.KernelRfl
import Derived.Maps.AppendAt
import Derived.Deep.AppendLies
import Derived.Deep.Draws
import Derived.Deep.DeepMust
import Derived.Laws.BytesArg
import Derived.OrdersHeld
set_option linter.unusedVariables false
set_option linter.unusedSimpArgs false
namespace Go.Proofs.YtfofapggmoibkaaGreatDoor
open Go Go.RowKit

theorem ret_tup3 {a a' b b' c c' : Value} (h1 : a = a') (h2 : b = b') (h3 : c = c') : Ending.returned (.tuple #[a, b, c]) = .returned (.tuple #[a', b', c']) := by rw [h1, h2, h3]
theorem vbool {a b : Bool} (h : a = b) : Value.bool a = .bool b := by rw [h]
theorem vint {k : IntKind} {a b : Int} (h : a = b) : Value.int k a = .int k b := by rw [h]
theorem vstr {a b : ByteArray} (h : a = b) : Value.string a = .string b := by rw [h]
/-- A fact that neither simp nor a search looks into. -/
structure Hd (p : Prop) : Prop where
  out : p
/-- What was below the heap's end is as it was. -/
abbrev Ext (w w' : World) : Prop := Below w.heap.size w w'
theorem Ext.refl (w : World) : Ext w w := Below.refl _ _
theorem Ext.trans {a b c : World} (h : Ext a b) (k : Ext b c) : Ext a c :=
  Below.trans h ⟨k.os, k.tape, k.output, k.size, fun i hi => k.block i (Nat.lt_of_lt_of_le hi h.size)⟩
theorem Ext.alloc {w W : World} (h : Ext w W) (o : Obj) : Ext w (W.alloc o) := Below.alloc h h.size o
theorem Ext.drew {w W : World} (h : Ext w W) : Ext w W.drew := ⟨h.os, h.tape, h.output, h.size, h.block⟩
theorem Ext.drewN {w W : World} (h : Ext w W) (n : Nat) : Ext w (W.drewN n) := ⟨h.os, h.tape, h.output, h.size, h.block⟩
/-- Orders have been drawn, nothing else. -/
def Drawn (w w' : World) : Prop := ∃ n, w' = w.drewN n
theorem Drawn.ext {w w' : World} (h : Drawn w w') : Ext w w' := by
  obtain ⟨n, rfl⟩ := h
  exact (Ext.refl w).drewN n
theorem Ext.cell {w W : World} (h : Ext w W) {a : Addr} {v : Value} (hc : w.cell? a = some v) : W.cell? a = some v := (Below.cell h (World.block_lt_of_cell? w a hc)).trans hc
/-- a block of w's own that was written -/
theorem Ext.grown {w W W' : World} (h : Ext w W) {row : Option Nat} (hg : W.grownBy W' row) (hr : ∀ k, row = some k → w.heap.size ≤ k) : Ext w W' := Below.grown h hg h.size hr

section
variable {P : Program} {ops : Array Oper} {rest : List Oper} {o : Oper} {a : Act} {Q : Exit → Act → World → Prop}
/-- append(v, x), x of one cell, behind the box of the variadic. -/
theorem app1 {W : World} (base : Nat) (hgd : o.guard = none) (s x : Operand) (t e : TypeId) (z : Value) (bytes : Nat)
    (ho : o.op = .call { callee := .builtin .append, args := #[s, x], argTypes := #[t, t] })
    (ht : P.underlying t = some (.slice e)) (hinfo : (P.info? e).map (fun i => (i.zero, i.size, i.bytes)) = some (some z, 1, bytes)) (hz : z.cells.size = 1)
    {v : Value} {n : Nat} {xs : List Value} (HO : W.ownsRow base e 1 v n xs) {y : Value} (hs : a.eval s = v) (hx : a.eval x = .slice (some ⟨W.heap.size, 0, none⟩) 1 1) (h1 : y.oneCell' = true) (hbase : base ≤ W.heap.size) (hl : n ≤ 1000000) (hb : bytes ≤ 1000000)
    (h : ∀ v1 w1, w1.ownsRow base e 1 v1 (n + 1) (xs ++ [y]) → W.grownBy w1 v.ownBlock → (v1.ownBlock = v.ownBlock ∨ ∃ b, v1.ownBlock = some b ∧ W.heap.size ≤ b) → wpList P ops Q rest (a.put o.dst v1) w1) :
    wpList P ops Q (o :: rest) a (W.alloc (.cells #[y] e)) := by
  obtain ⟨i0, hi, hzz⟩ := Option.map_eq_some_iff.1 hinfo
  simp only [Prod.mk.injEq] at hzz
  obtain ⟨hz0, hz1, hz2⟩ := hzz
  have hb2 : (n + 1) * bytes ≤ 1000001 * 1000000 := Nat.mul_le_mul (by omega) hb
  refine wpList_append_own_at (W.alloc (.cells #[y] e)) hgd s x t ho base e i0 z 1 bytes ht hi hz0 hz1 hz2 hz (by omega) v n xs hs (HO.alloc _) ⟨W.heap.size, 0, none⟩ 1 1 [y] hx rfl
    (World.news_of_block (cs := #[y]) (t := e) (fr := (0, 0)) (heap_alloc_new W _)) (by simpa using h1) (by simp only [maxLen]; omega) (by omega) (by simp; omega) ?_
  intro v1 w1 hown hg _ hat
  refine h v1 w1 hown (World.grownBy.trans (World.grownBy_alloc W _ _) hg) ?_
  rcases hat with hat | hat
  · exact .inl hat
  · exact .inr ⟨_, hat, by simp⟩
end
def u8s (l : List UInt8) : List Value := l.map fun b => .int .u8 b.toNat
theorem u8s_length (l : List UInt8) : (u8s l).length = l.length := by simp [u8s]
theorem u8s_snoc (l : List UInt8) (b : UInt8) (x : Int) (h : x = (b.toNat : Int)) : u8s l ++ [.int .u8 x] = u8s (l ++ [b]) := by simp [u8s, h]
theorem own_nil (W : World) (base : Nat) (e : TypeId) (size : Nat) : W.ownsRow base e size (.slice none 0 0) 0 [] := ⟨by simp, .inl ⟨rfl, rfl⟩⟩
theorem own_str {P : Program} {w : World} {base n : Nat} {e' src dst e : TypeId} {v : Value} {l : List UInt8} (h : w.ownsRow base e' 1 v n (u8s l)) (hs : P.underlying src = some (.slice e)) (he : P.underlying e = some (.int .u8)) (hd : P.underlying dst = some .string) :
    (convert src dst v).run P w = .ok (.string ⟨l.toArray⟩) w := by
  have hl : l.length = n := by have := h.1; simp [u8s] at this; exact this
  rcases h.2 with ⟨rfl, rfl⟩ | ⟨g, cap, cur, rfl, _⟩
  · obtain rfl : l = [] := List.eq_nil_of_length_eq_zero hl
    exact run_convert_bytes_nil w src e hs he 0 0 dst hd
  · have hr := run_convert_bytes_arg w src e hs he g 0 n cap (l.map fun b => (b.toNat : Int)) (by simpa using hl) (fun i hi => ?_) dst hd
    · rw [hr]
      have e1 : strOfNums (l.map fun b => (b.toNat : Int)) = ⟨l.toArray⟩ := by simp [strOfNums, List.map_map, Function.comp_def]
      rw [e1]
    · have hc := h.cells (g := g) rfl i (.int .u8 ((l.map fun b => (b.toNat : Int)).getD i 0)) (by simp [u8s, List.getElem?_eq_getElem (show i < l.length by omega), List.getD_eq_getElem?_getD])
      have ha : (⟨g, 0, none⟩ : Addr).add i = ⟨g, 0 + i, none⟩ := by unfold Addr.add; split <;> simp_all
      rwa [ha] at hc
theorem own_base {w : World} {base : Nat} {e : TypeId} {size n : Nat} {v : Value} {xs : List Value} (h : w.ownsRow base e size v n xs) (k : Nat) (hk : v.ownBlock = some k) : base ≤ k := by
  rcases h.2 with ⟨rfl, _⟩ | ⟨g, cap, cur, rfl, hb, _⟩
  · simp [Value.ownBlock] at hk
  · have : g = k := by simpa [Value.ownBlock] using hk
    omega
theorem own_cell {w : World} {base g cap n j : Nat} {e : TypeId} {xs : List Value} {u : Value} (h : w.ownsRow base e 1 (.slice (some ⟨g, 0, none⟩) n cap) n xs) (hu : xs[j]? = some u) : w.cell? ⟨g, j, none⟩ = some u := by
  have := h.cells (g := g) rfl j u hu
  have ha : (⟨g, 0, none⟩ : Addr).add j = ⟨g, j, none⟩ := by unfold Addr.add; split <;> simp_all
  rwa [ha] at this
theorem own_block {w : World} {base g n : Nat} {e : TypeId} {xs : List Value} (h : w.ownsRow base e 1 (.slice (some ⟨g, 0, none⟩) n n) n xs) : w.heap[g]? = some (.cells xs.toArray e (0, 0)) := by
  rcases h.2 with ⟨h1, _⟩ | ⟨g', cap, cur, h1, _, hh, _, _, hc, ht⟩
  · cases h1
  · simp only [Value.slice.injEq, Option.some.injEq, Addr.mk.injEq] at h1
    obtain ⟨⟨rfl, _⟩, _, rfl⟩ := h1
    rw [hh, ← ht, Nat.mul_one, List.take_of_length_le (by simp; omega)]
theorem made_eq (z : Value) (n : Nat) : madeCells #[z] n = Array.replicate n z := by
  apply Array.ext'
  simp only [madeCells, Array.toList_map, Array.toList_range, Array.toList_replicate]
  apply List.ext_getElem
  · simp
  · intro i h1 h2
    simp [Nat.mod_one]
section
variable {P : Program} {ops : Array Oper} {rest : List Oper} {o : Oper} {a : Act} {Q : Exit → Act → World → Prop}
/-- make([]T, n), T of one cell -/
theorem mk1 {W : World} (hgd : o.guard = none) (l c : Operand) (t e : TypeId) (z : Value) (bytes : Nat) (hop : o.op = Op.makeSlice t l c)
    (ht : P.underlying t = some (.slice e)) (hinfo : (P.info? e).map (fun i => (i.zero, i.size, i.bytes)) = some (some z, 1, bytes)) (hz : z.cells = #[z])
    (n : Nat) (hl : a.eval l = .int .i64 (n : Int)) (hc : a.eval c = .int .i64 (n : Int)) (hn : n ≤ 1000000000) (hb : bytes ≤ 1000)
    (h : ∀ w1, w1.heap[W.heap.size]? = some (.cells (Array.replicate n z) e (0, 0)) → Ext W w1 → W.heap.size < w1.heap.size → wpList P ops Q rest (a.put o.dst (.slice (some ⟨W.heap.size, 0, none⟩) n n)) w1) :
    wpList P ops Q (o :: rest) a W := by
  obtain ⟨i0, hi, hzz⟩ := Option.map_eq_some_iff.1 hinfo
  simp only [Prod.mk.injEq] at hzz
  obtain ⟨hz0, hz1, hz2⟩ := hzz
  have hb2 : bytes * n ≤ 1000 * 1000000000 := Nat.mul_le_mul hb hn
  refine wpList_make_full W hgd l c t hop W.heap.size e i0 z 1 ht hi hz0 hz1 .i64 .i64 _ _ n hl hc rfl rfl (by rw [hz2]; omega) (by simp only [maxLen]; omega) (Nat.le_refl _) ?_
  intro w1 hown hg
  have hbk := own_block hown
  rw [hz, Nat.mul_one, made_eq] at hbk
  exact h w1 (by simpa using hbk) ⟨hg.os, hg.tape, hg.output, hg.size, fun k hk => hg.block k hk (by simp)⟩ (Array.getElem?_eq_some_iff.1 hbk).1
end
/-- append to a row of the call's own: the old slice still reads as it did. -/
theorem run_append_keeps {P : Program} (w : World) (base : Nat) (t ty e : TypeId) (i : TypeInfo) (z : Value) (size bytes : Nat) (ht : P.underlying t = some (.slice e)) (hi : P.info? e = some i) (hz : i.zero = some z)
    (hsize : i.size = size) (hby : i.bytes = bytes) (hzs : z.cells.size = size) (hsz : 0 < size)
    (v : Value) (n : Nat) (xs : List Value) (hown : w.ownsRow base e size v n xs)
    (a : Addr) (m c : Nat) (news : List Value) (hl : news.length = m * size) (hnews : ∀ j u, news[j]? = some u → w.cell? (a.add j) = some u) (h1 : ∀ u ∈ news, u.oneCell' = true)
    (h63 : n + m ≤ maxLen) (hbytes : (n + m) * bytes ≤ 140737488355328) (hbase : base ≤ w.heap.size) :
    ∃ v' w', (Builtin.append_ #[t, t] ty #[v, .slice (some a) m c]).run P w = .ok v' w' ∧ w'.ownsRow base e size v' (n + m) (xs ++ news) ∧ w.grownBy w' v.ownBlock ∧ w'.ownsRow base e size v n xs := by
  obtain ⟨v', w', hr, h2, h3, _, _⟩ := run_append_own_at (P := P) w base t ty e i z size bytes ht hi hz hsize hby hzs hsz v n xs hown a m c news hl hnews h1 h63 hbytes hbase
  refine ⟨v', w', hr, h2, h3, ?_⟩
  rcases hown.2 with ⟨rfl, rfl⟩ | ⟨g, cap, cur, rfl, hbg, hg, hnc, hcm, hcs, htake⟩
  · exact ⟨hown.1, .inl ⟨rfl, rfl⟩⟩
  · by_cases hroom : n + m ≤ cap
    · obtain ⟨w2, hr2, ho2, _⟩ := run_append_fits (P := P) w base t ty e i size ht hi hsize g n cap xs hown a m c news hl hnews h1 hroom
      rw [hr] at hr2
      injection hr2 with _ hw
      subst hw
      rcases ho2.2 with ⟨hv, _⟩ | ⟨g2, cap2, cur2, hv, hb2, hg2, _, _, hcs2, htake2⟩
      · cases hv
      · simp only [Value.slice.injEq, Option.some.injEq, Addr.mk.injEq] at hv
        obtain ⟨⟨rfl, _⟩, _, rfl⟩ := hv
        refine ⟨hown.1, .inr ⟨g, cap, cur2, rfl, hbg, hg2, hnc, hcm, hcs2, ?_⟩⟩
        have e1 : cur2.toList.take (n * size) = (cur2.toList.take ((n + m) * size)).take (n * size) := by
          rw [List.take_take, Nat.min_eq_left (Nat.mul_le_mul_right _ (by omega))]
        rw [e1, htake2, ← hown.1, List.take_left]
    · subst hsize; subst hby
      have holds : ∀ j u, xs[j]? = some u → w.cell? ((⟨g, 0, none⟩ : Addr).add j) = some u := hown.cells (g := g) rfl
      have hr2 := run_append_grow (P := P) w t ty e i z ht hi hz ⟨g, 0, none⟩ n cap xs hown.1 holds a m c news hl hnews (by omega) (by simp only [maxLen] at h63; omega) (growslice_fits (by omega) hbytes)
      rw [hr] at hr2
      injection hr2 with _ hw
      subst hw
      exact hown.drew.alloc _
section
variable {P : Program} {o : Oper} {a : Act} {K : Act → World → Prop} {Q : Exit → Act → World → Prop}
/-- append(v, x), x of one cell that lies boxed at block H: at the operation. -/
theorem wpApp1 {w : World} (base : Nat) (s x : Operand) (t e : TypeId) (z : Value) (bytes : Nat)
    (ho : o.op = .call { callee := .builtin .append, args := #[s, x], argTypes := #[t, t] })
    (ht : P.underlying t = some (.slice e)) (hinfo : (P.info? e).map (fun i => (i.zero, i.size, i.bytes)) = some (some z, 1, bytes)) (hz : z.cells.size = 1)
    {v : Value} {n : Nat} {xs : List Value} (HO : w.ownsRow base e 1 v n xs) {H : Nat} {y : Value} (hnew : w.heap[H]? = some (.cells #[y] e (0, 0))) (h1 : y.oneCell' = true)
    (hs : a.eval s = v) (hx : a.eval x = .slice (some ⟨H, 0, none⟩) 1 1) (hbase : base ≤ w.heap.size) (hl : n ≤ 1000000) (hb : bytes ≤ 1000000)
    (h : ∀ v1 w1, w1.ownsRow base e 1 v1 (n + 1) (xs ++ [y]) → w.grownBy w1 v.ownBlock → w1.ownsRow base e 1 v n xs → K (a.put o.dst v1) w1) : o.wp P a w K Q := by
  obtain ⟨i0, hi, hzz⟩ := Option.map_eq_some_iff.1 hinfo
  simp only [Prod.mk.injEq] at hzz
  obtain ⟨hz0, hz1, hz2⟩ := hzz
  have hb2 : (n + 1) * bytes ≤ 1000001 * 1000000 := Nat.mul_le_mul (by omega) hb
  obtain ⟨v', w', hr, h2, h3, h4⟩ := run_append_keeps (P := P) w base t o.type e i0 z 1 bytes ht hi hz0 hz1 hz2 hz (by omega) v n xs HO ⟨H, 0, none⟩ 1 1 [y] rfl
    (World.news_of_block (cs := #[y]) (t := e) (fr := (0, 0)) hnew) (by simpa using h1) (by simp only [maxLen]; omega) (by omega) hbase
  unfold Oper.wp execOp
  simp only [ho, resolve, invoke, builtin, Sem.run_bind, Sem.run_pure, Result.andThen_ok, List.map_toArray, List.map_cons, List.map_nil, hs, hx, hr]
  exact h v' w' h2 h3 h4
end
theorem cell_of {w : World} {b : Nat} {cs : Array Value} {T : TypeId} {fr : Nat × Nat} (hb : w.heap[b]? = some (.cells cs T fr)) {j : Nat} {v : Value} (h : cs[j]? = some v) : w.cell? ⟨b, j, none⟩ = some v := by
  simp [World.cell?, hb, h]
theorem free_of {w : World} {b : Nat} {cs : Array Value} {T : TypeId} (hb : w.heap[b]? = some (.cells cs T (0, 0))) (j : Nat) : w.frozen? ⟨b, j, none⟩ = false := by
  simp [World.frozen?, hb]
theorem set_block {w : World} {b j : Nat} {cs : Array Value} {T : TypeId} {fr : Nat × Nat} (hb : w.heap[b]? = some (.cells cs T fr)) (v : Value) : (w.setCell ⟨b, j, none⟩ v).heap[b]? = some (.cells (cs.setIfInBounds j v) T fr) := by
  simp [World.setCell, Array.getElem?_modify, hb]
theorem set_other {w : World} {b j k : Nat} (v : Value) (h : k ≠ b) : (w.setCell ⟨b, j, none⟩ v).heap[k]? = w.heap[k]? := Below.heap_setCell _ _ _ _ h
theorem set_size (w : World) (p : Addr) (v : Value) : (w.setCell p v).heap.size = w.heap.size := by simp [World.setCell]
theorem Ext.set {w W : World} (h : Ext w W) {b : Nat} (hb : w.heap.size ≤ b) (j : Nat) (v : Value) : Ext w (W.setCell ⟨b, j, none⟩ v) := Below.setCell (p := ⟨b, j, none⟩) h hb v
end Go.Proofs.YtfofapggmoibkaaGreatDoor
namespace Go.Proofs.YtfofapggmoibkaaGreatDoor
open Go
/-- byte i of a string, as a number -/
def byt (s : ByteArray) (i : Nat) : Nat := (s.data.toList.getD i 0).toNat
theorem byt_lt (s : ByteArray) (i : Nat) : byt s i < 256 := by unfold byt; exact UInt8.toNat_lt _
theorem byt_get (s : ByteArray) (i : Nat) (h : i < s.size) : (s[i]'h).toNat = byt s i := by
  unfold byt
  have : s.data.toList.getD i 0 = s[i] := by
    rw [List.getD_eq_getElem?_getD, List.getElem?_eq_getElem (by simpa using h)]; rfl
  rw [this]
theorem ba_size (l : List UInt8) : (ByteArray.mk l.toArray).size = l.length := by show l.toArray.size = _; simp
theorem data_len (s : ByteArray) : s.data.toList.length = s.size := by rw [Array.length_toList]; rfl
end Go.Proofs.YtfofapggmoibkaaGreatDoor
namespace Go.Proofs.YtfofapggmoibkaaGreatDoor
open Go

theorem wrap_u (k : IntKind) (hk : k.signed = false) (n : Nat) : k.wrap (n : Int) = ((n % 2 ^ k.bits : Nat) : Int) := by
  simp [IntKind.wrap, hk]
theorem bits_u_and (k : IntKind) (hk : k.signed = false) (a b : Nat) (ha : a < 2 ^ k.bits) (hb : b < 2 ^ k.bits) : bits .and k (a : Int) (b : Int) = ((a &&& b : Nat) : Int) := by
  simp only [bits, BitVec.ofInt_natCast, BitVec.toNat_and, BitVec.toNat_ofNat, Nat.mod_eq_of_lt ha, Nat.mod_eq_of_lt hb, wrap_u k hk]
  rw [Nat.mod_eq_of_lt (Nat.and_lt_two_pow _ hb)]
theorem bits_u_or (k : IntKind) (hk : k.signed = false) (a b : Nat) (ha : a < 2 ^ k.bits) (hb : b < 2 ^ k.bits) : bits .or k (a : Int) (b : Int) = ((a ||| b : Nat) : Int) := by
  simp only [bits, BitVec.ofInt_natCast, BitVec.toNat_or, BitVec.toNat_ofNat, Nat.mod_eq_of_lt ha, Nat.mod_eq_of_lt hb, wrap_u k hk]
  rw [Nat.mod_eq_of_lt (Nat.or_lt_two_pow ha hb)]
theorem bits_u_xor (k : IntKind) (hk : k.signed = false) (a b : Nat) (ha : a < 2 ^ k.bits) (hb : b < 2 ^ k.bits) : bits .xor k (a : Int) (b : Int) = ((a ^^^ b : Nat) : Int) := by
  simp only [bits, BitVec.ofInt_natCast, BitVec.toNat_xor, BitVec.toNat_ofNat, Nat.mod_eq_of_lt ha, Nat.mod_eq_of_lt hb, wrap_u k hk]
  rw [Nat.mod_eq_of_lt (Nat.xor_lt_two_pow ha hb)]

theorem or64 (a b : Nat) (ha : a < 18446744073709551616) (hb : b < 18446744073709551616) : bits BinOp.or IntKind.u64 (a : Int) (b : Int) = ((a ||| b : Nat) : Int) := bits_u_or .u64 rfl a b ha hb
theorem and8 (a b : Nat) (ha : a < 256) (hb : b < 256) : bits BinOp.and IntKind.u8 (a : Int) (b : Int) = ((a &&& b : Nat) : Int) := bits_u_and .u8 rfl a b ha hb
theorem xor32 (a b : Nat) (ha : a < 4294967296) (hb : b < 4294967296) : bits BinOp.xor IntKind.u32 (a : Int) (b : Int) = ((a ^^^ b : Nat) : Int) := bits_u_xor .u32 rfl a b ha hb
theorem and32 (a b : Nat) (ha : a < 4294967296) (hb : b < 4294967296) : bits BinOp.and IntKind.u32 (a : Int) (b : Int) = ((a &&& b : Nat) : Int) := bits_u_and .u32 rfl a b ha hb
theorem or32 (a b : Nat) (ha : a < 4294967296) (hb : b < 4294967296) : bits BinOp.or IntKind.u32 (a : Int) (b : Int) = ((a ||| b : Nat) : Int) := bits_u_or .u32 rfl a b ha hb
theorem and127 (b : Nat) (h : b < 256) : bits BinOp.and IntKind.u8 (b : Int) 127 = ((b % 128 : Nat) : Int) := by
  have h1 := and8 b 127 h (by omega)
  rw [show (127 : Nat) = 2 ^ 7 - 1 by rfl, Nat.and_two_pow_sub_one_eq_mod] at h1
  exact h1
theorem or_add_pow (m x k : Nat) (h : m < 2 ^ k) : m ||| x * 2 ^ k = m + x * 2 ^ k := by
  have := Nat.two_pow_add_eq_or_of_lt h x
  rw [Nat.mul_comm x, Nat.add_comm m, this, Nat.or_comm]
theorem pow128 (k : Nat) : (128 : Nat) ^ k = 2 ^ (7 * k) := by rw [Nat.pow_mul]
/-- one more digit of base 128 -/
theorem or_digit (m b k : Nat) (hm : m < 128 ^ k) (hk : k ≤ 9) (hb : b < 256) (h9 : k = 9 → b ≤ 1) :
    m + b % 128 * 128 ^ k < 18446744073709551616 ∧ m ||| b % 128 * 128 ^ k = m + b % 128 * 128 ^ k ∧ b % 128 * 128 ^ k < 18446744073709551616 := by
  refine ⟨?_, ?_, ?_⟩
  · rcases Nat.lt_or_ge k 9 with h | h
    · have h1 : m + b % 128 * 128 ^ k < 128 ^ (k + 1) := by
        have : b % 128 ≤ 127 := by omega
        have := Nat.mul_le_mul_right (128 ^ k) this
        rw [Nat.pow_succ]; omega
      have h2 : 128 ^ (k + 1) ≤ 128 ^ 9 := Nat.pow_le_pow_right (by omega) (by omega)
      omega
    · obtain rfl : k = 9 := by omega
      have := h9 rfl
      have : b % 128 ≤ 1 := by omega
      have := Nat.mul_le_mul_right (128 ^ 9) this
      omega
  · rw [pow128]; exact or_add_pow _ _ _ (by rw [← pow128]; exact hm)
  · rcases Nat.lt_or_ge k 9 with h | h
    · have : b % 128 ≤ 127 := by omega
      have := Nat.mul_le_mul_right (128 ^ k) this
      have h2 : 128 ^ k ≤ 128 ^ 8 := Nat.pow_le_pow_right (by omega) (by omega)
      omega
    · obtain rfl : k = 9 := by omega
      have := h9 rfl
      have : b % 128 ≤ 1 := by omega
      have := Nat.mul_le_mul_right (128 ^ 9) this
      omega
end Go.Proofs.YtfofapggmoibkaaGreatDoor
namespace Go.Proofs.YtfofapggmoibkaaGreatDoor
open Go

/-- the plan fits: (true, i): i may come up and nobody who could come before it touches its slots; (false, i): i alone may come up -/
def planOk (ops : Array Oper) : List (Bool × Nat) → Array Bool → Bool
  | [], listed => (Region.ready .any ops listed).isEmpty
  | (true, i) :: rest, listed => Region.free .any ops listed i && (Region.ready .any ops listed).contains i && planOk ops rest (listed.setIfInBounds i true)
  | (false, i) :: rest, listed => (Region.ready .any ops listed == [i]) && planOk ops rest (listed.setIfInBounds i true)
def planB (ops : Array Oper) (plan : List (Bool × Nat)) : Bool := Region.noSelect ops && (plan.length ≤ ops.size) && planOk ops plan (Array.replicate ops.size false)

section
variable {P : Program} {ops : Array Oper} {Q : Exit → Act → World → Prop} {S : World → Prop}
def wpPi (P : Program) (ops : Array Oper) (Q : Exit → Act → World → Prop) (S : World → Prop) : List (Bool × Nat) → Act → World → Prop
  | [], a, w => Q .normal a w
  | (true, i) :: rest, a, w => ∃ o v, ops[i]? = some o ∧ YieldsIf P ops S o v a ∧ S w ∧ wpPi P ops Q S rest (a.put o.dst v) w
  | (false, i) :: rest, a, w => wpOp P ops Q i (fun a' w' => S w' ∧ wpPi P ops Q S rest a' w') a w

theorem wpAnyH_of_pi (hs : Region.noSelect ops = true) (hQ : ∀ c a d v w, Q (.panic c) (a.put d v) w → Q (.panic c) a w) :
    ∀ (plan : List (Bool × Nat)) (fuel : Nat) (listed : Array Bool) (a : Act) (w : World), plan.length ≤ fuel → planOk ops plan listed = true →
      wpPi P ops Q S plan a w → wpAnyH P .any ops Q S fuel listed a w := by
  intro plan
  induction plan with
  | nil =>
    intro fuel listed a w _ hok h
    exact wpAnyH_done (by simpa [planOk] using hok) h fuel
  | cons p rest ih =>
    obtain ⟨b, i⟩ := p
    intro fuel listed a w hlen hok h
    obtain ⟨fuel, rfl⟩ : ∃ f, fuel = f + 1 := ⟨fuel - 1, by simp at hlen; omega⟩
    have hl : rest.length ≤ fuel := by simp at hlen; omega
    cases b with
    | true =>
      simp only [planOk, Bool.and_eq_true] at hok
      obtain ⟨o, v, ho, hy, hS, hk⟩ := h
      exact wpAnyH_take ho hs hok.1.1 hok.1.2 (fun c a w => hQ c a _ _ w) hy hS (ih fuel _ _ _ hl hok.2 hk)
    | false =>
      simp only [planOk, Bool.and_eq_true, beq_iff_eq] at hok
      refine wpAnyH_all hok.1 (by simp) fun j hj => ?_
      obtain rfl : j = i := by simpa using hj
      exact wpOp_mono (fun a' w' hh => ⟨hh.1, ih fuel _ _ _ hl hok.2 hh.2⟩) h

theorem wp_region_pi {id : Nat} {a : Act} {w : World} {l : List Oper} (S : World → Prop) (plan : List (Bool × Nat)) (hm : P.follows .mixedOrders = true) (hB : planB l.toArray plan = true)
    (hQ : ∀ c a d v w, Q (.panic c) (a.put d v) w → Q (.panic c) a w) (h : wpPi P l.toArray Q S plan a w.drew) : (Code.region id l.toArray true).wp P Q a w := by
  simp only [planB, Bool.and_eq_true, decide_eq_true_eq] at hB
  exact wp_region_held hm (wpAnyH_of_pi hB.1.1 hQ plan _ _ _ _ (by simpa using hB.1.2) hB.2 h)

variable {l : List Oper}
theorem drop_get {i : Nat} {o : Oper} {r : List Oper} (h : l.drop i = o :: r) : l.toArray[i]? = some o := by
  have : (l.drop i)[0]? = some o := by rw [h]; rfl
  simpa using this
theorem pi_nil {a : Act} {w : World} (h : Q .normal a w) : wpPi P ops Q S [] a w := h
/-- an operation that only reads: run in whatever world meets S -/
theorem pi_still {i : Nat} {rest : List (Bool × Nat)} {a : Act} {w : World} {o : Oper} {r : List Oper} {v : Value} (ho : l.drop i = o :: r) (hS : S w) (hw : Region.wanted o (yielded l.toArray a.tmps) = true)
    (hr : ∀ w', S w' → (execOp a.eval o).run P w' = .ok (.value v) w') (h : ∀ K : Act → World → Prop, (∀ a w, wpPi P l.toArray Q S rest a w → K a w) → K (a.put o.dst v) w) : wpPi P l.toArray Q S ((true, i) :: rest) a w :=
  ⟨o, v, drop_get ho, .inl ⟨hw, hr⟩, hS, h _ fun _ _ h => h⟩
theorem pi_skip {i : Nat} {rest : List (Bool × Nat)} {a : Act} {w : World} {o : Oper} {r : List Oper} (ho : l.drop i = o :: r) (hS : S w) (hw : Region.wanted o (yielded l.toArray a.tmps) = false)
    (h : ∀ K : Act → World → Prop, (∀ a w, wpPi P l.toArray Q S rest a w → K a w) → K (a.put o.dst undef) w) : wpPi P l.toArray Q S ((true, i) :: rest) a w :=
  ⟨o, undef, drop_get ho, .inr ⟨hw, rfl⟩, hS, h _ fun _ _ h => h⟩
/-- any other -/
theorem pi_act {i : Nat} {rest : List (Bool × Nat)} {a : Act} {w : World} {o : Oper} {r : List Oper} (ho : l.drop i = o :: r) (hw : Region.wanted o (yielded l.toArray a.tmps) = true)
    (h : ∀ K : Act → World → Prop, (∀ a' w', S w' → wpPi P l.toArray Q S rest a' w' → K a' w') → o.wp P a w K Q) : wpPi P l.toArray Q S ((false, i) :: rest) a w := by
  show wpOp P l.toArray Q i _ a w
  unfold wpOp
  simp only [drop_get ho, hw, if_true]
  exact .inl (h _ fun _ _ h1 h2 => ⟨h1, h2⟩)
end
end Go.Proofs.YtfofapggmoibkaaGreatDoor
