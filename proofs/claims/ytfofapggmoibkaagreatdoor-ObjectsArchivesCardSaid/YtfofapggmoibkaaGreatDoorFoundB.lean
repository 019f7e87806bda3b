/- Whole arrays by value: the operations alloc, store, load, each written out so that it fits at once or not at all. A slice of strings that is read. A row of the call's own that []byte(s) made: its mark lies behind the last cell; append to it, string of it. Whole arrays by value: a new variable with its first value; one element of an array by value. Reading an element of a slice that is known through its cells. A map whose keys are strings, as the list of its entries. -/
import Derived.Test.YtfofapggmoibkaaGreatDoorFoundA
import Derived.Deep.MidRow
import Derived.Deep.WholeRow
import Derived.Laws.IdiomStrings
import Derived.Lib.FrozenHead
import Derived.Lib.ConvBytes
import Derived.Maps.Own
import Derived.ChangeMaps4
import Derived.MapFrom
set_option linter.unusedVariables false
set_option linter.unusedSimpArgs false
namespace Go.Proofs.YtfofapggmoibkaaGreatDoor
open Go Go.RowKit
section
variable {P : Program} {ops : Array Oper} {rest : List Oper} {a : Act} {Q : Exit → Act → World → Prop} {w : World} {dst : Option Tmp} {ty : TypeId} {pos : String} {aft : _}
theorem stRow {x y : Operand} (T : TypeId) (g : Nat) (cells : Array Value) (hx : a.eval x = .pointer (some ⟨g, 0, none⟩)) (hy : a.eval y = .agg cells)
    (t : TypeId) (old : Array Value) (hg : w.heap[g]? = some (.cells old t (0, 0))) (hi : (P.info? T).map (·.size) = some cells.size)
    (hold : old.size = cells.size) (h1 : cells.all (·.oneCell') = true)
    (h : wpList P ops Q rest (a.put dst undef) (w.setRow g cells)) : wpList P ops Q (⟨dst, .store T x y, ty, pos, aft, none⟩ :: rest) a w :=
  wpList_store_row rfl T x y rfl g cells hx hy t old hg hi hold h1 h
theorem ldRow {x : Operand} (T : TypeId) (g : Nat) (hx : a.eval x = .pointer (some ⟨g, 0, none⟩)) (t : TypeId) (cs : Array Value) (d : TypeDesc) (hg : w.heap[g]? = some (.cells cs t (0, 0)))
    (hu : P.underlying T = some d) (hd : (match d with | .struct _ | .array _ _ => true | _ => false) = true) (hi : (P.info? T).map (·.size) = some cs.size)
    (h : wpList P ops Q rest (a.put dst (.agg cs)) w) : wpList P ops Q (⟨dst, .load T x, ty, pos, aft, none⟩ :: rest) a w :=
  wpList_load_row rfl T x rfl g hx t cs (0, 0) d hg hu hd hi h
theorem ldMid {x : Operand} (T : TypeId) (b o : Nat) (hx : a.eval x = .pointer (some ⟨b, o, none⟩)) (cs : List Value) (d : TypeDesc) (hc : w.rangeAt b o cs)
    (hu : P.underlying T = some d) (hd : d.isRow = true) (hi : (P.info? T).map (·.size) = some cs.length)
    (h : wpList P ops Q rest (a.put dst (.agg cs.toArray)) w) : wpList P ops Q (⟨dst, .load T x, ty, pos, aft, none⟩ :: rest) a w :=
  wpList_load_mid rfl T x rfl b o hx cs d hc hu hd hi h
theorem alRow (T : TypeId) (cs : Array Value) (hz : (P.info? T).map (fun i => (i.zero, i.size)) = some (some (.agg cs), cs.size))
    (h : wpList P ops Q rest (a.put dst (.pointer (some ⟨w.heap.size, 0, none⟩))) (w.alloc (.cells cs T))) : wpList P ops Q (⟨dst, .alloc T, ty, pos, aft, none⟩ :: rest) a w := by
  refine wpList_plain rfl fun K hK => ?_
  obtain ⟨h1, h2⟩ := zero_of_info hz
  unfold Oper.wp execOp
  simp [Instr.alloc, h1, Value.cells]
  exact hK _ _ h
end
theorem row_block {w : World} {g : Nat} {cs old : Array Value} {T : TypeId} (hg : w.heap[g]? = some (.cells old T (0, 0))) : (w.setRow g cs).heap[g]? = some (.cells cs T (0, 0)) := setRow_heap w g old cs T (0, 0) hg
theorem Ext.row {w W : World} (h : Ext w W) {g : Nat} (hg : w.heap.size ≤ g) (cs : Array Value) : Ext w (W.setRow g cs) :=
  ⟨h.os, h.tape, h.output, by have := h.size; simpa using this, fun i hi => (setRow_other W g i cs (by omega)).trans (h.block i hi)⟩
end Go.Proofs.YtfofapggmoibkaaGreatDoor
namespace Go.Proofs.YtfofapggmoibkaaGreatDoor
open Go Go.RowKit

/-- At A the strings l lie side by side. -/
def StrsAt (w : World) (A : Option Addr) (l : List ByteArray) : Prop :=
  (A = none ∧ l = []) ∨ ∃ b off, A = some ⟨b, off, none⟩ ∧ ∀ i s, l[i]? = some s → w.cell? ⟨b, off + i, none⟩ = some (.string s)
theorem StrsAt.ext {w w' : World} {A : Option Addr} {l : List ByteArray} (h : StrsAt w A l) (hx : Ext w w') : StrsAt w' A l := by
  rcases h with h | ⟨b, off, h, hc⟩
  · exact .inl h
  · exact .inr ⟨b, off, h, fun i s hi => hx.cell (hc i s hi)⟩
/-- A world in which the strings' own blocks are as they were. -/
theorem StrsAt.move {w w' : World} {A : Option Addr} {l : List ByteArray} (h : StrsAt w A l) (hx : ∀ b off, A = some ⟨b, off, none⟩ → b < w.heap.size → w'.heap[b]? = w.heap[b]?) : StrsAt w' A l := by
  rcases h with h | ⟨b, off, h, hc⟩
  · exact .inl h
  · refine .inr ⟨b, off, h, fun i s hi => ?_⟩
    have hc' := hc i s hi
    have hlt := World.block_lt_of_cell? w _ hc'
    rw [← hc']
    simp only [World.cell?, hx b off h hlt]
/-- the value of a slice of strings -/
def SlS (w : World) (v : Value) (l : List ByteArray) : Prop := ∃ A c, v = .slice A l.length c ∧ l.length ≤ c ∧ StrsAt w A l
theorem SlS.ext {w w' : World} {v : Value} {l : List ByteArray} (h : SlS w v l) (hx : Ext w w') : SlS w' v l := by
  obtain ⟨A, c, h1, h2, h3⟩ := h
  exact ⟨A, c, h1, h2, h3.ext hx⟩
theorem SlS.nil (w : World) : SlS w (.slice none 0 0) [] := ⟨none, 0, rfl, Nat.le_refl _, .inl ⟨rfl, rfl⟩⟩
def strs (l : List ByteArray) : List Value := l.map Value.string
theorem strs_length (l : List ByteArray) : (strs l).length = l.length := by simp [strs]
theorem strs_snoc (l : List ByteArray) (s : ByteArray) : strs l ++ [.string s] = strs (l ++ [s]) := by simp [strs]
theorem strs_get {l : List ByteArray} {i : Nat} {s : ByteArray} (h : l[i]? = some s) : (strs l)[i]? = some (.string s) := by simp [strs, h]
theorem SlS.block {w : World} {g : Nat} {e : TypeId} {fr : Nat × Nat} {l : List ByteArray} (h : w.heap[g]? = some (.cells (strs l).toArray e fr)) : SlS w (.slice (some ⟨g, 0, none⟩) l.length l.length) l :=
  ⟨_, _, rfl, Nat.le_refl _, .inr ⟨g, 0, rfl, fun i s hi => by rw [Nat.zero_add]; exact cell_of h (by simpa using strs_get hi)⟩⟩
theorem SlS.own {w : World} {base : Nat} {e : TypeId} {v : Value} {l : List ByteArray} (h : w.ownsRow base e 1 v l.length (strs l)) : SlS w v l := by
  rcases h.2 with ⟨rfl, h0⟩ | ⟨g, cap, cur, rfl, _, hg, hc, _⟩
  · obtain rfl : l = [] := List.eq_nil_of_length_eq_zero h0
    exact SlS.nil w
  · refine ⟨_, cap, rfl, hc, .inr ⟨g, 0, rfl, fun i s hi => ?_⟩⟩
    have := h.cells (g := g) rfl i _ (strs_get hi)
    have ha : (⟨g, 0, none⟩ : Addr).add i = ⟨g, 0 + i, none⟩ := by unfold Addr.add; split <;> simp_all
    rwa [ha] at this
/-- a slice's value that lies from block B on -/
def FreshV (B : Nat) (v : Value) : Prop := ∀ b o n c, v = .slice (some ⟨b, o, none⟩) n c → B ≤ b
theorem FreshV.nil (B n c : Nat) : FreshV B (.slice none n c) := by intro b o n c h; cases h
theorem FreshV.of {B g n c : Nat} (h : B ≤ g) : FreshV B (.slice (some ⟨g, 0, none⟩) n c) := by intro b o n c hh; cases hh; exact h
theorem FreshV.own {w : World} {B : Nat} {e : TypeId} {size n : Nat} {v : Value} {xs : List Value} (h : w.ownsRow B e size v n xs) : FreshV B v := by
  intro b o n' c hv
  subst hv
  exact own_base h b rfl
theorem FreshV.mono {B B' : Nat} {v : Value} (h : FreshV B v) (hb : B' ≤ B) : FreshV B' v := fun b o n c hv => Nat.le_trans hb (h b o n c hv)
theorem FreshV.ne {B g n c : Nat} {A : Option Addr} (h : FreshV B (.slice A n c)) (hg : g < B) : ∀ b o, A = some ⟨b, o, none⟩ → b ≠ g := by
  intro b o hA e
  have := h b o n c (by rw [hA])
  omega
end Go.Proofs.YtfofapggmoibkaaGreatDoor
namespace Go.Proofs.YtfofapggmoibkaaGreatDoor
open Go Go.RowKit

def OwnM (w : World) (base : Nat) (e : TypeId) (v : Value) (n : Nat) (xs : List Value) : Prop :=
  xs.length = n ∧
  ((v = .slice none 0 0 ∧ n = 0) ∨
   ∃ g cap cur fz, v = .slice (some ⟨g, 0, none⟩) n cap ∧ base ≤ g ∧ w.heap[g]? = some (.cells cur e fz) ∧ (fz.2 = 0 ∨ cap ≤ fz.1) ∧ n ≤ cap ∧ cap ≤ maxLen ∧ cur.size = cap ∧ cur.toList.take n = xs)

theorem OwnM.of {w : World} {base : Nat} {e : TypeId} {v : Value} {n : Nat} {xs : List Value} (h : w.ownsRow base e 1 v n xs) : OwnM w base e v n xs := by
  refine ⟨by simpa using h.1, ?_⟩
  rcases h.2 with hn | ⟨g, cap, cur, hv, hb, hg, h1, h2, h3, h4⟩
  · exact .inl hn
  · exact .inr ⟨g, cap, cur, (0, 0), hv, hb, hg, .inl rfl, h1, h2, by simpa using h3, by simpa using h4⟩
theorem OwnM.kept {w w' : World} {base : Nat} {e : TypeId} {v : Value} {n : Nat} {xs : List Value} {row : Option Nat} (h : OwnM w base e v n xs) (hg : w.grownBy w' row) (hne : v.ownBlock = none ∨ v.ownBlock ≠ row) : OwnM w' base e v n xs := by
  refine ⟨h.1, ?_⟩
  rcases h.2 with hn | ⟨g, cap, cur, fz, rfl, hb, hgg, rest⟩
  · exact .inl hn
  · refine .inr ⟨g, cap, cur, fz, rfl, hb, ?_, rest⟩
    rw [hg.block g (Array.getElem?_eq_some_iff.1 hgg).1 (by simpa [Value.ownBlock] using hne)]
    exact hgg
theorem OwnM.alloc {w : World} {base : Nat} {e : TypeId} {v : Value} {n : Nat} {xs : List Value} (h : OwnM w base e v n xs) (o : Obj) : OwnM (w.alloc o) base e v n xs :=
  h.kept (World.grownBy_alloc w o none) (by cases hv : v.ownBlock <;> simp)
theorem OwnM.cells {w : World} {base : Nat} {e : TypeId} {v : Value} {n : Nat} {xs : List Value} (h : OwnM w base e v n xs) {g : Nat} (hg : v.ownBlock = some g) : ∀ j u, xs[j]? = some u → w.cell? ((⟨g, 0, none⟩ : Addr).add j) = some u := by
  intro j u hu
  rcases h.2 with ⟨rfl, _⟩ | ⟨g', cap, cur, fz, rfl, _, hgg, _, _, _, _, htake⟩
  · simp [Value.ownBlock] at hg
  · simp [Value.ownBlock] at hg
    subst hg
    have hadd : (⟨g', 0, none⟩ : Addr).add j = ⟨g', j, none⟩ := by unfold Addr.add; split <;> simp_all
    rw [hadd, cell_of_row w g' j cur e fz hgg]
    rw [← htake, List.getElem?_take] at hu
    split at hu
    · simpa using hu
    · cases hu
theorem OwnM.base {w : World} {base : Nat} {e : TypeId} {v : Value} {n : Nat} {xs : List Value} (h : OwnM w base e v n xs) (k : Nat) (hk : v.ownBlock = some k) : base ≤ k := by
  rcases h.2 with ⟨rfl, _⟩ | ⟨g, cap, cur, fz, rfl, hb, _⟩
  · simp [Value.ownBlock] at hk
  · have : g = k := by simpa [Value.ownBlock] using hk
    omega
/-- []byte(s) -/
theorem own_bytes (w : World) (base : Nat) (hb : base ≤ w.heap.size) (e : TypeId) (s : ByteArray) (hs : s.size ≤ maxLen) : OwnM (Lib.bytesWorld w e s) base e (.slice (some ⟨w.heap.size, 0, none⟩) s.size (grownCap w s.size 0 e)) s.size (u8s s.data.toList) := by
  have hl : s.data.toList.length = s.size := by rw [Array.length_toList]; rfl
  have hge := grownCap_ge w s.size 0 e
  have hz : (Lib.bytesCells w e s).size = grownCap w s.size 0 e := by
    simp only [Lib.bytesCells, Array.size_append, Array.size_map, Array.size_replicate]
    rw [← Array.length_toList, hl]; omega
  refine ⟨by rw [u8s_length, hl], .inr ⟨w.heap.size, _, _, _, rfl, hb, Lib.bytesWorld_at_new w e s, .inr (by rw [hz]; exact Nat.le_refl _), hge, grownCap_le_maxLen w _ _ _ hs, hz, ?_⟩⟩
  simp only [Lib.bytesCells, Array.toList_append, Array.toList_map, ← hl]
  rw [List.take_left' (by simp)]
  rfl
theorem ext_bytes {w W : World} (h : Ext w W) (e : TypeId) (s : ByteArray) : Ext w (Lib.bytesWorld W e s) :=
  Below.trans h ⟨rfl, rfl, rfl, by rw [Lib.bytesWorld_size]; have := h.size; omega, fun i hi => Lib.bytesWorld_at_old W e s i (Nat.lt_of_lt_of_le hi h.size)⟩

theorem run_storeCells_M (P : Program) (g o : Nat) (t : TypeId) (fz : Nat × Nat) : ∀ (vs : List Value) (i : Nat) (cur : Array Value) (w : World), w.heap[g]? = some (.cells cur t fz) → (fz.2 = 0 ∨ cur.size ≤ fz.1) → o + i + vs.length ≤ cur.size → (∀ v ∈ vs, v.oneCell' = true) →
    (storeCells ⟨g, o, none⟩ vs i).run P w = .ok () (w.setRow g (cur.toList.take (o + i) ++ vs ++ cur.toList.drop (o + i + vs.length)).toArray)
  | [], i, cur, w, hg, _, _, _ => by
    simp only [storeCells, List.append_nil, List.length_nil, Nat.add_zero, List.take_append_drop, Array.toArray_toList]
    rw [setRow_self w g cur t fz hg]
    rfl
  | v :: rest, i, cur, w, hg, hfz, hl, h1 => by
    have hi : o + i < cur.size := by simp at hl; omega
    have hadd : (⟨g, o, none⟩ : Addr).add i = ⟨g, o + i, none⟩ := by unfold Addr.add; split <;> simp_all
    have hcell : w.cell? ⟨g, o + i, none⟩ = some cur[o + i] := by simp [World.cell?, hg, hi]
    have hfro : w.frozen? ⟨g, o + i, none⟩ = false := by
      obtain ⟨lo, hi'⟩ := fz
      simp only [World.frozen?, hg, Bool.and_eq_false_iff, decide_eq_false_iff_not]
      simp only at hfz
      rcases hfz with h | h
      · right; omega
      · left; omega
    have hst : (store ((⟨g, o, none⟩ : Addr).add i) v).run P w = .ok () (w.setRow g (cur.setIfInBounds (o + i) v)) := by
      rw [hadd, run_store P w _ v _ (h1 v (by simp)), hcell]
      simp [hfro, setCell_eq_setRow w g (o + i) cur t fz v hg]
    have ih := run_storeCells_M P g o t fz rest (i + 1) (cur.setIfInBounds (o + i) v) (w.setRow g (cur.setIfInBounds (o + i) v)) (setRow_heap w g cur _ t _ hg) (by simpa using hfz) (by simp at hl ⊢; omega) (fun x hx => h1 x (by simp [hx]))
    simp only [storeCells, Sem.run_bind, hst, Result.andThen_ok, ih, setRow_setRow]
    congr 3
    have e := list_seg_step cur.toList (o + i) v rest (by simp at hl ⊢; omega)
    simpa [Array.toList_setIfInBounds, Nat.add_assoc] using e

section
variable {P : Program}
theorem run_append_M (w : World) (base : Nat) (t ty e : TypeId) (i : TypeInfo) (z : Value) (bytes : Nat) (ht : P.underlying t = some (.slice e)) (hi : P.info? e = some i) (hz : i.zero = some z)
    (hsize : i.size = 1) (hby : i.bytes = bytes) (hzs : z.cells.size = 1)
    (v : Value) (n : Nat) (xs : List Value) (hown : OwnM w base e v n xs)
    (a : Addr) (m c : Nat) (news : List Value) (hl : news.length = m) (hnews : ∀ j u, news[j]? = some u → w.cell? (a.add j) = some u) (h1 : ∀ u ∈ news, u.oneCell' = true)
    (h63 : n + m ≤ maxLen) (hbytes : (n + m) * bytes ≤ 140737488355328) (hbase : base ≤ w.heap.size) :
    ∃ v' w', (Builtin.append_ #[t, t] ty #[v, .slice (some a) m c]).run P w = .ok v' w' ∧ OwnM w' base e v' (n + m) (xs ++ news) ∧ w.grownBy w' v.ownBlock := by
  subst hby
  have hl1 : news.length = m * i.size := by rw [hsize]; omega
  rcases hown.2 with ⟨rfl, rfl⟩ | ⟨g, cap, cur, fz, rfl, hbg, hg, hfz, hnc, hcm, hcs, htake⟩
  · have hx : xs = [] := List.eq_nil_of_length_eq_zero hown.1
    subst hx
    obtain ⟨v', w', hr, h2, h3, _⟩ := run_append_own (P := P) w base t ty e i z 1 i.bytes ht hi hz hsize rfl hzs (by omega) _ 0 [] (own_nil w base e 1) a m c news (by omega) hnews h1 h63 hbytes hbase
    exact ⟨v', w', hr, OwnM.of h2, h3⟩
  · have hsmall : n + m ≤ 9223372036854775807 := by simp only [maxLen] at h63; omega
    have hlen : (xs ++ news).length = n + m := by rw [List.length_append, hown.1, hl]
    by_cases hroom : n + m ≤ cap
    · have hf := run_firstCells_some (P := P) w i.size m a m c news hl1 hnews
      have hst := run_storeCells_M P g n e fz news 0 cur w hg (by rw [hcs]; exact hfz) (by omega) h1
      simp only [Nat.add_zero] at hst
      have hr : (Builtin.append_ #[t, t] ty #[.slice (some ⟨g, 0, none⟩) n cap, .slice (some a) m c]).run P w = .ok (.slice (some ⟨g, 0, none⟩) (n + m) cap) (w.setRow g (cur.toList.take n ++ news ++ cur.toList.drop (n + news.length)).toArray) := by
        rw [hsize] at hf
        simp [Builtin.append_, run_underlying ht, sizeOf, typeInfo, hi, hsize, Builtin.lenOf, hroom, hf, Addr.add_lit, hst]
      refine ⟨_, _, hr, ⟨hlen, .inr ⟨g, cap, _, fz, rfl, hbg, setRow_heap w g cur _ e _ hg, hfz, hroom, hcm, ?_, ?_⟩⟩, ⟨rfl, rfl, rfl, by simp, fun k _ hk => setRow_other w g k _ (fun e => hk (by simp [Value.ownBlock, e]))⟩⟩
      · simp only [List.size_toArray, List.length_append, List.length_take, List.length_drop, Array.length_toList]
        omega
      · rw [htake, ← hlen]
        exact List.take_left
    · have holds : ∀ j u, xs[j]? = some u → w.cell? ((⟨g, 0, none⟩ : Addr).add j) = some u := hown.cells (g := g) rfl
      have hr := run_append_grow (P := P) w t ty e i z ht hi hz ⟨g, 0, none⟩ n cap xs (by rw [hsize, hown.1]; omega) holds a m c news hl1 hnews (by omega) (by omega) (growslice_fits (by omega) hbytes)
      have hge := grownCap_ge w (n + m) cap e
      have hcm2 : grownCap w (n + m) cap e ≤ maxLen := grownCap_le_maxLen w (n + m) cap e h63
      refine ⟨_, _, hr, ⟨hlen, .inr ⟨w.heap.size, _, _, (0, 0), rfl, hbase, heap_alloc_new w.drew _, .inl rfl, hge, hcm2, ?_, ?_⟩⟩, ⟨rfl, rfl, rfl, by simp, fun k hk _ => heap_alloc_old w.drew _ hk⟩⟩
      · simp only [Array.size_append, List.size_toArray, size_zeroCells, hzs, hown.1, hl]
        omega
      · simp only [Array.toList_append, List.append_assoc]
        rw [← List.append_assoc, ← hlen]
        exact List.take_left
theorem ownM_str {w : World} {base n : Nat} {e' src dst e : TypeId} {v : Value} {l : List UInt8} (h : OwnM w base e' v n (u8s l)) (hs : P.underlying src = some (.slice e)) (he : P.underlying e = some (.int .u8)) (hd : P.underlying dst = some .string) :
    (convert src dst v).run P w = .ok (.string ⟨l.toArray⟩) w := by
  have hl : l.length = n := by have := h.1; simpa [u8s] using this
  rcases h.2 with ⟨rfl, rfl⟩ | ⟨g, cap, cur, fz, rfl, _⟩
  · obtain rfl : l = [] := List.eq_nil_of_length_eq_zero hl
    exact run_convert_bytes_nil w src e hs he 0 0 dst hd
  · have hr := run_convert_bytes_arg w src e hs he g 0 n cap (l.map fun b => (b.toNat : Int)) (by simpa using hl) (fun i hi => ?_) dst hd
    · rw [hr]
      have e1 : strOfNums (l.map fun b => (b.toNat : Int)) = ⟨l.toArray⟩ := by simp [strOfNums, List.map_map, Function.comp_def]
      rw [e1]
    · have hc := h.cells (g := g) rfl i (.int .u8 ((l.map fun b => (b.toNat : Int)).getD i 0)) (by simp [u8s, List.getElem?_eq_getElem (show i < l.length by omega), List.getD_eq_getElem?_getD])
      have ha : (⟨g, 0, none⟩ : Addr).add i = ⟨g, 0 + i, none⟩ := by unfold Addr.add; split <;> simp_all
      rwa [ha] at hc
variable {ops : Array Oper} {rest : List Oper} {o : Oper} {a : Act} {Q : Exit → Act → World → Prop}
/-- append(v, x, y, ..): the variadic's box lies newest. -/
theorem appM {W : World} (base : Nat) (hgd : o.guard = none) (s x : Operand) (t e : TypeId) (z : Value) (bytes : Nat)
    (ho : o.op = .call { callee := .builtin .append, args := #[s, x], argTypes := #[t, t] })
    (ht : P.underlying t = some (.slice e)) (hinfo : (P.info? e).map (fun i => (i.zero, i.size, i.bytes)) = some (some z, 1, bytes)) (hz : z.cells.size = 1)
    {v : Value} {n m : Nat} {xs : List Value} (HO : OwnM W base e v n xs) {ys : List Value} (hys : ys.length = m) (hs : a.eval s = v) (hx : a.eval x = .slice (some ⟨W.heap.size, 0, none⟩) m m) (h1 : ∀ u ∈ ys, u.oneCell' = true) (hbase : base ≤ W.heap.size) (hl : n + m ≤ 100000000) (hb : bytes ≤ 1000000)
    (h : ∀ v1 w1, OwnM w1 base e v1 (n + m) (xs ++ ys) → W.grownBy w1 v.ownBlock → wpList P ops Q rest (a.put o.dst v1) w1) :
    wpList P ops Q (o :: rest) a (W.alloc (.cells ys.toArray e)) := by
  obtain ⟨i0, hi, hzz⟩ := Option.map_eq_some_iff.1 hinfo
  simp only [Prod.mk.injEq] at hzz
  obtain ⟨hz0, hz1, hz2⟩ := hzz
  have hb2 : (n + m) * bytes ≤ 100000000 * 1000000 := Nat.mul_le_mul hl hb
  refine wpList_plain hgd fun K hK => ?_
  obtain ⟨v', w', hr, h2, h3⟩ := run_append_M (P := P) (W.alloc (.cells ys.toArray e)) base t o.type e i0 z bytes ht hi hz0 hz1 hz2 hz v n xs (HO.alloc _) ⟨W.heap.size, 0, none⟩ m m ys hys
    (World.news_of_block (cs := ys.toArray) (t := e) (fr := (0, 0)) (heap_alloc_new W _)) h1 (by simp only [maxLen]; omega) (by omega) (by simp; omega)
  unfold Oper.wp execOp
  simp only [ho, resolve, invoke, builtin, Sem.run_bind, Sem.run_pure, Result.andThen_ok, List.map_toArray, List.map_cons, List.map_nil, hs, hx, hr]
  exact hK _ _ (h v' w' h2 (World.grownBy.trans (World.grownBy_alloc W _ _) h3))
/-- append(v, x, y, ..), the box at block H: at the operation. -/
theorem wpAppM {w : World} {K : Act → World → Prop} (base : Nat) (s x : Operand) (t e : TypeId) (z : Value) (bytes : Nat)
    (ho : o.op = .call { callee := .builtin .append, args := #[s, x], argTypes := #[t, t] })
    (ht : P.underlying t = some (.slice e)) (hinfo : (P.info? e).map (fun i => (i.zero, i.size, i.bytes)) = some (some z, 1, bytes)) (hz : z.cells.size = 1)
    {v : Value} {n m : Nat} {xs : List Value} (HO : OwnM w base e v n xs) {H : Nat} {ys : List Value} (hys : ys.length = m) (hnew : w.heap[H]? = some (.cells ys.toArray e (0, 0))) (h1 : ∀ u ∈ ys, u.oneCell' = true)
    (hs : a.eval s = v) (hx : a.eval x = .slice (some ⟨H, 0, none⟩) m m) (hbase : base ≤ w.heap.size) (hl : n + m ≤ 100000000) (hb : bytes ≤ 1000000)
    (h : ∀ v1 w1, OwnM w1 base e v1 (n + m) (xs ++ ys) → w.grownBy w1 v.ownBlock → K (a.put o.dst v1) w1) : o.wp P a w K Q := by
  obtain ⟨i0, hi, hzz⟩ := Option.map_eq_some_iff.1 hinfo
  simp only [Prod.mk.injEq] at hzz
  obtain ⟨hz0, hz1, hz2⟩ := hzz
  have hb2 : (n + m) * bytes ≤ 100000000 * 1000000 := Nat.mul_le_mul hl hb
  obtain ⟨v', w', hr, h2, h3⟩ := run_append_M (P := P) w base t o.type e i0 z bytes ht hi hz0 hz1 hz2 hz v n xs HO ⟨H, 0, none⟩ m m ys hys
    (World.news_of_block (cs := ys.toArray) (t := e) (fr := (0, 0)) hnew) h1 (by simp only [maxLen]; omega) (by omega) hbase
  unfold Oper.wp execOp
  simp only [ho, resolve, invoke, builtin, Sem.run_bind, Sem.run_pure, Result.andThen_ok, List.map_toArray, List.map_cons, List.map_nil, hs, hx, hr]
  exact h v' w' h2 h3
end
end Go.Proofs.YtfofapggmoibkaaGreatDoor
namespace Go.Proofs.YtfofapggmoibkaaGreatDoor
open Go Go.RowKit
theorem put_size (a : Act) (d : Option Tmp) (v : Value) : (a.put d v).tmps.size = a.tmps.size := by
  cases d <;> simp [Act.put]
theorem eval_same (a : Act) (i : Nat) (v : Value) (h : i < a.tmps.size) : (a.put (some i) v).eval (.tmp i) = v := by
  simp [Act.put, Act.eval, h]
theorem eval_ne (a : Act) (i j : Nat) (v : Value) (h : i ≠ j) : (a.put (some i) v).eval (.tmp j) = a.eval (.tmp j) := by
  simp [Act.put, Act.eval, h, Array.getElem?_setIfInBounds]
theorem eval_none (a : Act) (v : Value) (x : Operand) : (a.put none v).eval x = a.eval x := rfl
section
variable {P : Program} {ops : Array Oper} {rest : List Oper} {a : Act} {Q : Exit → Act → World → Prop} {w : World}
/-- alloc T; store T: the world behind is a letter. -/
theorem boxRow {i k : Nat} {t1 t2 : TypeId} {p1 p2 : String} {f1 f2 : _} (T : TypeId) (zs : Array Value) (hz : (P.info? T).map (fun i => (i.zero, i.size)) = some (some (.agg zs), zs.size))
    (cells : Array Value) {n : Nat} (hn : a.tmps.size = n) (hi : (decide (i < n) && decide (i ≠ k)) = true) (hy : a.eval (.tmp k) = .agg cells)
    (hs : zs.size = cells.size) (h1 : cells.all (·.oneCell') = true)
    (h : ∀ W, W.heap[w.heap.size]? = some (.cells cells T (0, 0)) → Ext w W → W.heap.size = w.heap.size + 1 → wpList P ops Q rest (a.put (some i) (.pointer (some ⟨w.heap.size, 0, none⟩))) W) :
    wpList P ops Q (⟨some i, .alloc T, t1, p1, f1, none⟩ :: ⟨none, .store T (.tmp i) (.tmp k), t2, p2, f2, none⟩ :: rest) a w := by
  obtain ⟨_, hzi⟩ := zero_of_info hz
  simp only [Bool.and_eq_true, decide_eq_true_eq] at hi
  refine alRow T zs hz (stRow T w.heap.size cells (eval_same _ _ _ (by omega)) ((eval_ne _ _ _ _ hi.2).trans hy) T zs (heap_alloc_new w _) (by rw [hzi, hs]) hs h1 (h _ (row_block (heap_alloc_new w _)) (((Ext.refl w).alloc _).row (Nat.le_refl _) _) ?_))
  simp
/-- two variables, made first, stored then -/
theorem boxRow2 {i j k l : Nat} {t1 t2 t3 t4 : TypeId} {p1 p2 p3 p4 : String} {f1 f2 f3 f4 : _} (T : TypeId) (zs : Array Value) (hz : (P.info? T).map (fun i => (i.zero, i.size)) = some (some (.agg zs), zs.size))
    (A B : Array Value) {n : Nat} (hn : a.tmps.size = n) (hi : (decide (i < n) && decide (j < n) && decide (i ≠ j) && decide (i ≠ k) && decide (j ≠ k) && decide (i ≠ l) && decide (j ≠ l)) = true)
    (hy : a.eval (.tmp k) = .agg A) (hy' : a.eval (.tmp l) = .agg B)
    (hs : zs.size = A.size) (h1 : A.all (·.oneCell') = true) (hs' : zs.size = B.size) (h1' : B.all (·.oneCell') = true)
    (h : ∀ W, W.heap[w.heap.size]? = some (.cells A T (0, 0)) → W.heap[w.heap.size + 1]? = some (.cells B T (0, 0)) → Ext w W → W.heap.size = w.heap.size + 2 → wpList P ops Q rest ((a.put (some i) (.pointer (some ⟨w.heap.size, 0, none⟩))).put (some j) (.pointer (some ⟨w.heap.size + 1, 0, none⟩))) W) :
    wpList P ops Q (⟨some i, .alloc T, t1, p1, f1, none⟩ :: ⟨some j, .alloc T, t2, p2, f2, none⟩ :: ⟨none, .store T (.tmp i) (.tmp k), t3, p3, f3, none⟩ :: ⟨none, .store T (.tmp j) (.tmp l), t4, p4, f4, none⟩ :: rest) a w := by
  obtain ⟨_, hzi⟩ := zero_of_info hz
  simp only [Bool.and_eq_true, decide_eq_true_eq] at hi
  obtain ⟨⟨⟨⟨⟨⟨b1, b2⟩, b3⟩, b4⟩, b5⟩, b6⟩, b7⟩ := hi
  have z1 : (w.alloc (.cells zs T)).heap.size = w.heap.size + 1 := by simp
  have e1 : ((w.alloc (.cells zs T)).alloc (.cells zs T)).heap[w.heap.size]? = some (.cells zs T (0, 0)) := (heap_alloc_old _ _ (by rw [z1]; omega)).trans (heap_alloc_new w _)
  have e2 : ((w.alloc (.cells zs T)).alloc (.cells zs T)).heap[w.heap.size + 1]? = some (.cells zs T (0, 0)) := by
    have := heap_alloc_new (w.alloc (.cells zs T)) (.cells zs T)
    rwa [z1] at this
  refine alRow T zs hz (alRow T zs hz ?_)
  rw [z1]
  refine stRow T w.heap.size A ?_ ?_ T zs e1 (by rw [hzi, hs]) hs h1 (stRow T (w.heap.size + 1) B ?_ ?_ T zs ((setRow_other _ _ _ _ (by omega)).trans e2) (by rw [hzi, hs']) hs' h1' (h _ ?_ ?_ ?_ ?_))
  · exact (eval_ne _ _ _ _ (Ne.symm b3)).trans (eval_same _ _ _ (by omega))
  · exact (eval_ne _ _ _ _ b5).trans ((eval_ne _ _ _ _ b4).trans hy)
  · exact eval_same _ _ _ (by rw [put_size]; omega)
  · exact (eval_ne _ _ _ _ b7).trans ((eval_ne _ _ _ _ b6).trans hy')
  · exact (setRow_other _ _ _ _ (by omega)).trans (row_block e1)
  · exact row_block ((setRow_other _ _ _ _ (by omega)).trans e2)
  · exact ((((Ext.refl w).alloc _).alloc _).row (Nat.le_refl _) _).row (by omega) _
  · simp
/-- load T out of the midst of a block; alloc T; store T -/
theorem copyMid {i k : Nat} {x : Operand} {t0 t1 t2 : TypeId} {p0 p1 p2 : String} {f0 f1 f2 : _} (T : TypeId) (zs : Array Value) (hz : (P.info? T).map (fun i => (i.zero, i.size)) = some (some (.agg zs), zs.size))
    (b o : Nat) (cs : List Value) (d : TypeDesc) {n : Nat} (hn : a.tmps.size = n) (hi : (decide (i < n) && decide (k < n) && decide (i ≠ k)) = true) (hx : a.eval x = .pointer (some ⟨b, o, none⟩)) (hc : w.rangeAt b o cs)
    (hu : P.underlying T = some d) (hd : d.isRow = true) (hs : zs.size = cs.length) (h1 : cs.toArray.all (·.oneCell') = true)
    (h : ∀ W, W.heap[w.heap.size]? = some (.cells cs.toArray T (0, 0)) → Ext w W → W.heap.size = w.heap.size + 1 → wpList P ops Q rest ((a.put (some k) (.agg cs.toArray)).put (some i) (.pointer (some ⟨w.heap.size, 0, none⟩))) W) :
    wpList P ops Q (⟨some k, .load T x, t0, p0, f0, none⟩ :: ⟨some i, .alloc T, t1, p1, f1, none⟩ :: ⟨none, .store T (.tmp i) (.tmp k), t2, p2, f2, none⟩ :: rest) a w := by
  obtain ⟨_, hzi⟩ := zero_of_info hz
  simp only [Bool.and_eq_true, decide_eq_true_eq] at hi
  refine ldMid T b o hx cs d hc hu hd (by rw [hzi, hs]) (boxRow T zs hz cs.toArray (put_size _ _ _) ?_ (eval_same _ _ _ (by omega)) (by simpa using hs) h1 h)
  simp only [Bool.and_eq_true, decide_eq_true_eq, hn]
  exact ⟨hi.1.1, hi.2⟩
end
/-- one element of an array by value -/
theorem run_idxAgg {P : Program} (w : World) (t e : TypeId) (n : Nat) (cs : Array Value) (k : IntKind) (i : Int) (v : Value) (hu : P.underlying t = some (.array n e)) (ha : ∀ w, (isAgg e).run P w = .ok false w) (hz : ∀ w, (sizeOf e).run P w = .ok 1 w)
    (h0 : 0 ≤ i) (hn : i < n) (hv : cs[i.toNat]? = some v) : (Instr.index t (.agg cs) (.int k i)).run P w = .ok v w := by
  simp [Instr.index, run_underlying hu, asIntOf, h0, hn, hz, part, ha, hv, go_sem]
/-- nothing below but block g has turned -/
abbrev But (w w' : World) (g : Nat) : Prop := w.grownBy w' (some g)
theorem But.of {w w' : World} (h : Ext w w') (g : Nat) : But w w' g := ⟨h.os, h.tape, h.output, h.size, fun i hi _ => h.block i hi⟩
theorem But.trans {a b c : World} {g : Nat} (h : But a b g) (k : But b c g) : But a c g := World.grownBy.trans h k
theorem But.set {w W : World} {g : Nat} (h : But w W g) (j : Nat) (v : Value) : But w (W.setCell ⟨g, j, none⟩ v) g :=
  h.trans ⟨rfl, rfl, rfl, by rw [set_size]; exact Nat.le_refl _, fun i hi hne => set_other v (by intro e; subst e; exact hne rfl)⟩
theorem But.other {w W : World} {g : Nat} (h : But w W g) {k : Nat} {o : Obj} (hk : k ≠ g) (ho : w.heap[k]? = some o) : W.heap[k]? = some o :=
  (h.block k (Array.getElem?_eq_some_iff.1 ho).1 (by intro e; injection e; omega)).trans ho
theorem Ext.obj {w W : World} (h : Ext w W) {k : Nat} {o : Obj} (ho : w.heap[k]? = some o) : W.heap[k]? = some o := (h.block k (Array.getElem?_eq_some_iff.1 ho).1).trans ho
end Go.Proofs.YtfofapggmoibkaaGreatDoor
namespace Go.Proofs.YtfofapggmoibkaaGreatDoor
open Go Go.RowKit

theorem str_t {x y : ByteArray} (h : x = y) : (x.toList == y.toList) = true := by simp [h]
theorem str_f {x y : ByteArray} (h : x ≠ y) : (x.toList == y.toList) = false := by
  simp only [beq_eq_false_iff_ne, ne_eq, Go.ByteArray.toList_eq]
  intro hh
  exact h (ByteArray.ext (Array.ext' hh))
/-- At A the cells xs lie side by side. -/
def RowAt (w : World) (A : Option Addr) (xs : List Value) : Prop :=
  (A = none ∧ xs = []) ∨ ∃ b off, A = some ⟨b, off, none⟩ ∧ ∀ i v, xs[i]? = some v → w.cell? ⟨b, off + i, none⟩ = some v
theorem RowAt.ext {w w' : World} {A : Option Addr} {xs : List Value} (h : RowAt w A xs) (hx : Ext w w') : RowAt w' A xs := by
  rcases h with h | ⟨b, off, h, hc⟩
  · exact .inl h
  · exact .inr ⟨b, off, h, fun i s hi => hx.cell (hc i s hi)⟩
theorem StrsAt.row {w : World} {A : Option Addr} {l : List ByteArray} (h : StrsAt w A l) : RowAt w A (strs l) := by
  rcases h with ⟨h1, h2⟩ | ⟨b, off, h, hc⟩
  · exact .inl ⟨h1, by rw [h2]; rfl⟩
  · refine .inr ⟨b, off, h, fun i v hi => ?_⟩
    simp only [strs, List.getElem?_map, Option.map_eq_some_iff] at hi
    obtain ⟨s, hs, rfl⟩ := hi
    exact hc i s hs
/-- element k, m cells long: where it lies -/
theorem RowAt.get {P : Program} {w : World} {A : Option Addr} {xs : List Value} (h : RowAt w A xs) (T E : TypeId) (hu : P.underlying T = some (.slice E)) (m : Nat) (hsz : ∀ w, (sizeOf E).run P w = .ok m w) (n c k : Nat) (hk : k < n) (hn : n * m ≤ xs.length) (hm : 0 < m) :
    ∃ b o, (∀ w', (Instr.indexAt T (.slice A n c) (.int .i64 (k : Int))).run P w' = .ok (.pointer (some ⟨b, o, none⟩)) w') ∧ ∀ j v, j < m → xs[k * m + j]? = some v → w.cell? ⟨b, o + j, none⟩ = some v := by
  have hpos : 0 < n * m := Nat.mul_pos (by omega) hm
  rcases h with ⟨h1, h2⟩ | ⟨b, off, h, hc⟩
  · subst h2; simp at hn; omega
  · refine ⟨b, off + k * m, fun w' => ?_, fun j v hj hv => ?_⟩
    · subst h
      have hel : P.elem T = E := by simp [Program.elem, hu]
      rw [run_indexAt_slice (h := by rw [hel]; exact hu), if_pos (by omega), hel, hsz]
      simp only [Result.andThen_ok, Int.toNat_natCast]
      congr 3
      unfold Addr.add; split <;> simp_all
    · rw [Nat.add_assoc]; exact hc _ _ hv
theorem StrsAt.get {P : Program} {w : World} {A : Option Addr} {l : List ByteArray} (h : StrsAt w A l) (T E : TypeId) (hu : P.underlying T = some (.slice E)) (hsz : ∀ w, (sizeOf E).run P w = .ok 1 w) (n c k : Nat) (hn : n = l.length) {x : ByteArray} (hk : l[k]? = some x) :
    ∃ b o, (∀ w', (Instr.indexAt T (.slice A n c) (.int .i64 (k : Int))).run P w' = .ok (.pointer (some ⟨b, o, none⟩)) w') ∧ w.cell? ⟨b, o, none⟩ = some (.string x) := by
  have hlt := (List.getElem?_eq_some_iff.1 hk).1
  obtain ⟨b, o, h1, h2⟩ := h.row.get T E hu 1 hsz n c k (by omega) (by rw [strs_length]; omega) (by omega)
  exact ⟨b, o, h1, h2 0 _ (by omega) (by rw [Nat.mul_one, Nat.add_zero]; exact strs_get hk)⟩
end Go.Proofs.YtfofapggmoibkaaGreatDoor
namespace Go.Proofs.YtfofapggmoibkaaGreatDoor
open Go Go.RowKit Go.MapKept

/-- block mb is a map with the entries L -/
def MapIs (w : World) (mb : Nat) (L : List (ByteArray × Value)) : Prop :=
  ∃ es clock, w.heap[mb]? = some (.map es clock) ∧ Stamped es clock ∧ es.toList.map (fun e => (e.key, e.val)) = L.map (fun p => (Value.string p.1, p.2))
theorem MapIs.lt {w : World} {mb : Nat} {L : List (ByteArray × Value)} (h : MapIs w mb L) : mb < w.heap.size := by
  obtain ⟨es, clock, hb, _⟩ := h
  exact (Array.getElem?_eq_some_iff.1 hb).1
theorem MapIs.ext {w w' : World} {mb : Nat} {L : List (ByteArray × Value)} (h : MapIs w mb L) (hx : Ext w w') : MapIs w' mb L := by
  obtain ⟨es, clock, hb, r⟩ := h
  exact ⟨es, clock, hx.obj hb, r⟩
theorem MapIs.but {w w' : World} {mb g : Nat} {L : List (ByteArray × Value)} (h : MapIs w mb L) (hx : But w w' g) (hne : mb ≠ g) : MapIs w' mb L := by
  obtain ⟨es, clock, hb, r⟩ := h
  exact ⟨es, clock, hx.other hne hb, r⟩
theorem MapIs.made (w : World) : MapIs (w.alloc (.map #[] 0)) w.heap.size [] := ⟨#[], 0, (MapKept.heap_alloc w _).1, stamped_empty 0, by simp⟩
/-- the entry of a key -/
def getM (L : List (ByteArray × Value)) (s : ByteArray) : Option Value := (L.find? fun p => decide (p.1 = s)).map (·.2)
theorem getM_mem {L : List (ByteArray × Value)} {s : ByteArray} {v : Value} (h : getM L s = some v) : (s, v) ∈ L := by
  unfold getM at h
  simp only [Option.map_eq_some_iff] at h
  obtain ⟨⟨k, v'⟩, h1, rfl⟩ := h
  have h2 := List.find?_some h1
  have h3 := List.mem_of_find?_eq_some h1
  simp only [decide_eq_true_eq] at h2
  subst h2
  exact h3
theorem getM_none {L : List (ByteArray × Value)} {s : ByteArray} : getM L s = none ↔ ∀ p ∈ L, p.1 ≠ s := by
  unfold getM
  simp [List.find?_eq_none]
theorem keys_nodup {w : World} {mb : Nat} {L : List (ByteArray × Value)} (h : MapIs w mb L) : (L.map (·.1)).Nodup := by
  obtain ⟨es, clock, hb, ⟨_, _, hs⟩, hL⟩ := h
  have e1 : es.toList.map (·.key) = L.map fun p => Value.string p.1 := by
    have := congrArg (List.map Prod.fst) hL
    simpa [List.map_map, Function.comp_def] using this
  rw [e1] at hs
  have e2 : (L.map fun p => Value.string p.1) = (L.map (·.1)).map Value.string := by simp [List.map_map, Function.comp_def]
  rw [e2] at hs
  exact (List.pairwise_map.1 hs).imp (fun h e => h (by rw [e]))
theorem find_pos {L : List (ByteArray × Value)} (hn : (L.map (·.1)).Nodup) {j : Nat} {p : ByteArray × Value} (h : L[j]? = some p) : getM L p.1 = some p.2 := by
  cases hg : getM L p.1 with
  | none => exact absurd rfl (getM_none.1 hg p (List.mem_of_getElem? h))
  | some v =>
    have hm := getM_mem hg
    obtain ⟨i, hi⟩ := List.mem_iff_getElem?.1 hm
    have e1 : (L.map (·.1))[i]? = some p.1 := by rw [List.getElem?_map, hi]; rfl
    have e2 : (L.map (·.1))[j]? = some p.1 := by rw [List.getElem?_map, h]; rfl
    have hl := (List.getElem?_eq_some_iff.1 e1).1
    have hij := (List.getElem?_inj hl hn).1 (e1.trans e2.symm)
    subst hij
    rw [hi] at h
    injection h with h
    rw [← h]
section
variable {P : Program} {t k e : TypeId} {w : World} {mb : Nat} {L : List (ByteArray × Value)}
theorem MapIs.find (h : MapIs w mb L) (s : ByteArray) : ∃ es clock, w.heap[mb]? = some (.map es clock) ∧ Stamped es clock ∧ es.toList.map (fun e => (e.key, e.val)) = L.map (fun p => (Value.string p.1, p.2)) ∧
    ((Instr.findNow .string (.string s) es.toList 0 = some none ∧ getM L s = none ∧ ∀ x ∈ es.toList, x.key ≠ .string s) ∨ ∃ j v e0, Instr.findNow .string (.string s) es.toList 0 = some (some (j, v)) ∧ L[j]? = some (s, v) ∧ es[j]? = some e0 ∧ e0.key = .string s ∧ e0.val = v) := by
  have hnd := keys_nodup h
  obtain ⟨es, clock, hb, hs, hL⟩ := h
  refine ⟨es, clock, hb, hs, hL, ?_⟩
  have hks : ∀ x ∈ es.toList, IsKey .string x.key := by
    intro x hx
    have : (x.key, x.val) ∈ es.toList.map (fun e => (e.key, e.val)) := List.mem_map.2 ⟨x, hx, rfl⟩
    rw [hL] at this
    obtain ⟨p, _, hp⟩ := List.mem_map.1 this
    injection hp with h1 h2
    rw [← h1]; trivial
  rcases findNow_spec (show IsKey .string (.string s) from trivial) es.toList 0 hks with ⟨h1, h2⟩ | ⟨j, e0, h1, h2, h3⟩
  · refine .inl ⟨h1, ?_, h2⟩
    rw [getM_none]
    intro p hp hps
    have : (Value.string p.1, p.2) ∈ L.map (fun p => (Value.string p.1, p.2)) := List.mem_map.2 ⟨p, hp, rfl⟩
    rw [← hL] at this
    obtain ⟨x, hx, hxe⟩ := List.mem_map.1 this
    injection hxe with h4 h5
    exact h2 x hx (by rw [h4, hps])
  · refine .inr ⟨j, e0.val, e0, by rw [h1, Nat.zero_add], ?_, by simpa using h2, h3, rfl⟩
    have e1 : (es.toList.map (fun e => (e.key, e.val)))[j]? = some (e0.key, e0.val) := by rw [List.getElem?_map, h2]; rfl
    rw [hL, List.getElem?_map, Option.map_eq_some_iff] at e1
    obtain ⟨p, hp, hpe⟩ := e1
    rw [hp]
    rw [h3] at hpe
    injection hpe with h4 h5
    injection h4 with h4
    rw [← h4, ← h5]
/-- m[s] with ok -/
theorem MapIs.look (h : MapIs w mb L) (ht : P.underlying t = some (.map k e)) (hk : P.underlying k = some .string) {z : Value} (hz : (zeroValue e).run P w = .ok z w) (s : ByteArray) :
    (Instr.lookup t (.map (some mb)) (.string s) true).run P w = .ok (.tuple #[(getM L s).getD z, .bool (getM L s).isSome]) w := by
  have hnd := keys_nodup h
  obtain ⟨es, clock, hb, hs, hL, hf⟩ := h.find s
  rcases hf with ⟨h1, h2, _⟩ | ⟨j, v, e0, h1, h2, _⟩
  · simp [Instr.lookup, run_underlying ht, MapKept.run_getObj_map hb, run_checkKey hk (show IsKey .string (.string s) from trivial), run_findKey hk h1, Result.andThen, hz, h2]
  · have := find_pos hnd h2
    simp only at this
    simp [Instr.lookup, run_underlying ht, MapKept.run_getObj_map hb, run_checkKey hk (show IsKey .string (.string s) from trivial), run_findKey hk h1, Result.andThen, this]
/-- m[s] -/
theorem MapIs.look1 (h : MapIs w mb L) (ht : P.underlying t = some (.map k e)) (hk : P.underlying k = some .string) {z : Value} (hz : (zeroValue e).run P w = .ok z w) (s : ByteArray) :
    (Instr.lookup t (.map (some mb)) (.string s) false).run P w = .ok ((getM L s).getD z) w := by
  have hnd := keys_nodup h
  obtain ⟨es, clock, hb, hs, hL, hf⟩ := h.find s
  rcases hf with ⟨h1, h2, _⟩ | ⟨j, v, e0, h1, h2, _⟩
  · simp [Instr.lookup, run_underlying ht, MapKept.run_getObj_map hb, run_checkKey hk (show IsKey .string (.string s) from trivial), run_findKey hk h1, Result.andThen, hz, h2]
  · have := find_pos hnd h2
    simp only at this
    simp [Instr.lookup, run_underlying ht, MapKept.run_getObj_map hb, run_checkKey hk (show IsKey .string (.string s) from trivial), run_findKey hk h1, Result.andThen, this]
theorem setBlock_but {o o' : Obj} (hb : w.heap[mb]? = some o) : But w (ChangeMaps.setBlock w mb o') mb ∧ (ChangeMaps.setBlock w mb o').heap[mb]? = some o' := by
  obtain ⟨h1, h2⟩ := heap_set (o' := o') hb
  refine ⟨⟨rfl, rfl, rfl, by simp [ChangeMaps.setBlock], fun i hi hne => h2 i (by intro e; subst e; exact hne rfl)⟩, h1⟩
/-- m[s] = v, s new -/
theorem MapIs.put (h : MapIs w mb L) (ht : P.underlying t = some (.map k e)) (hk : P.underlying k = some .string) (s : ByteArray) (v : Value) (hn : getM L s = none) :
    ∃ w', (Instr.mapUpdate t (.map (some mb)) (.string s) v).run P w = .ok () w' ∧ MapIs w' mb (L ++ [(s, v)]) ∧ But w w' mb := by
  obtain ⟨es, clock, hb, hs, hL, hf⟩ := h.find s
  rcases hf with ⟨h1, h2, h3⟩ | ⟨j, v', e0, h1, h2, _⟩
  · obtain ⟨g1, g2⟩ := setBlock_but (o' := .map (es.push ⟨.string s, v, clock⟩) (clock + 1)) hb
    refine ⟨_, ?_, ⟨_, _, g2, stamped_push hs h3, ?_⟩, g1⟩
    · simp [Instr.mapUpdate, run_underlying ht, MapKept.run_getObj_map hb, run_checkKey hk (show IsKey .string (.string s) from trivial), run_findKey hk h1, MapKept.run_setObj_map _ hb, Result.andThen, ChangeMaps.setBlock]
    · simp [hL]
  · exfalso
    exact getM_none.1 hn _ (List.mem_of_getElem? h2) rfl
/-- m[s] = v, s known -/
theorem MapIs.putSame (h : MapIs w mb L) (ht : P.underlying t = some (.map k e)) (hk : P.underlying k = some .string) (s : ByteArray) (v : Value) (hn : getM L s = some v) :
    ∃ w', (Instr.mapUpdate t (.map (some mb)) (.string s) v).run P w = .ok () w' ∧ MapIs w' mb L ∧ But w w' mb := by
  have hnd := keys_nodup h
  obtain ⟨es, clock, hb, hs, hL, hf⟩ := h.find s
  rcases hf with ⟨h1, h2, h3⟩ | ⟨j, v', e0, h1, h2, h3, h4, h5⟩
  · rw [h2] at hn; cases hn
  · have := find_pos hnd h2
    rw [this] at hn
    injection hn with hn
    simp only at hn
    subst hn
    have hsame : es.modify j (fun e' => { e' with key := .string s, val := v' }) = es := by
      apply Array.ext_getElem?
      intro i
      rw [Array.getElem?_modify]
      split
      · rename_i hji
        subst hji
        rw [h3]
        simp only [Option.map_some, Option.some.injEq]
        cases e0
        simp only at h4 h5
        subst h4; subst h5; rfl
      · rfl
    obtain ⟨g1, g2⟩ := setBlock_but (o' := .map es clock) hb
    refine ⟨_, ?_, ⟨_, _, g2, hs, hL⟩, g1⟩
    simp [Instr.mapUpdate, run_underlying ht, MapKept.run_getObj_map hb, run_checkKey hk (show IsKey .string (.string s) from trivial), run_findKey hk h1, h3, h4, run_keyThatStays (show IsKey .string (.string s) from trivial), MapKept.run_setObj_map _ hb, Result.andThen, ChangeMaps.setBlock, hsame]
theorem filter_erase {L : List (ByteArray × Value)} (hn : (L.map (·.1)).Nodup) {j : Nat} {s : ByteArray} {v : Value} (h : L[j]? = some (s, v)) : L.filter (fun p => !decide (p.1 = s)) = L.eraseIdx j := by
  induction L generalizing j with
  | nil => simp at h
  | cons p L ih =>
    rw [List.map_cons, List.nodup_cons] at hn
    cases j with
    | zero =>
      simp only [List.getElem?_cons_zero, Option.some.injEq] at h
      subst h
      rw [List.eraseIdx_cons_zero, List.filter_cons_of_neg (by simp)]
      refine List.filter_eq_self.2 fun q hq => ?_
      simp only [Bool.not_eq_true', decide_eq_false_iff_not]
      intro e
      exact hn.1 (List.mem_map.2 ⟨q, hq, e⟩)
    | succ j =>
      simp only [List.getElem?_cons_succ] at h
      rw [List.eraseIdx_cons_succ, ← ih hn.2 h, List.filter_cons_of_pos]
      simp only [Bool.not_eq_true', decide_eq_false_iff_not]
      intro e
      exact hn.1 (List.mem_map.2 ⟨(s, v), List.mem_of_getElem? h, e.symm⟩)
/-- delete(m, s) -/
theorem MapIs.del {ty : TypeId} (h : MapIs w mb L) (ht : P.underlying t = some (.map k e)) (hk : P.underlying k = some .string) (s : ByteArray) :
    ∃ w', (Builtin.delete_ #[t, k] ty #[.map (some mb), .string s]).run P w = .ok (.tuple #[]) w' ∧ MapIs w' mb (L.filter fun p => !decide (p.1 = s)) ∧ But w w' mb := by
  have hnd := keys_nodup h
  obtain ⟨es, clock, hb, hs, hL, hf⟩ := h.find s
  rcases hf with ⟨h1, h2, h3⟩ | ⟨j, v', e0, h1, h2, h3, h4, h5⟩
  · obtain ⟨g1, g2⟩ := setBlock_but (o' := .map es clock) hb
    refine ⟨_, ?_, ⟨_, _, g2, hs, ?_⟩, g1⟩
    · simp [Builtin.delete_, run_underlying ht, MapKept.run_getObj_map hb, run_checkKey hk (show IsKey .string (.string s) from trivial), run_findKey hk h1, MapKept.run_setObj_map _ hb, Result.andThen, ChangeMaps.setBlock]
    · rw [List.filter_eq_self.2]
      · exact hL
      · intro p hp
        have := getM_none.1 h2 p hp
        simpa using this
  · have hjs : j < es.size := (Array.getElem?_eq_some_iff.1 h3).1
    have hsub : (es.eraseIdxIfInBounds j).toList = es.toList.eraseIdx j := by
      unfold Array.eraseIdxIfInBounds
      rw [dif_pos hjs]
      simp
    obtain ⟨g1, g2⟩ := setBlock_but (o' := .map (es.eraseIdxIfInBounds j) clock) hb
    refine ⟨_, ?_, ⟨_, _, g2, stamped_erase hs j, ?_⟩, g1⟩
    · simp [Builtin.delete_, run_underlying ht, MapKept.run_getObj_map hb, run_checkKey hk (show IsKey .string (.string s) from trivial), run_findKey hk h1, MapKept.run_setObj_map _ hb, Result.andThen, ChangeMaps.setBlock]
    · rw [hsub, ChangeMaps.map_eraseIdx, hL, ← ChangeMaps.map_eraseIdx, filter_erase hnd h2]
/-! at the operations -/
variable {ops : Array Oper} {rest : List Oper} {o : Oper} {a : Act} {Q : Exit → Act → World → Prop} {dst : Option Tmp} {ty : TypeId} {pos : String} {aft : _}
theorem mapPut {m x v : Operand} (h : MapIs w mb L) (ht : P.underlying t = some (.map k e)) (hk : P.underlying k = some .string) (s : ByteArray) (val : Value) (hn : getM L s = none ∨ getM L s = some val)
    (hm : a.eval m = .map (some mb)) (hx : a.eval x = .string s) (hv : a.eval v = val)
    (hK : ∀ w', MapIs w' mb (if getM L s = none then L ++ [(s, val)] else L) → But w w' mb → wpList P ops Q rest (a.put dst undef) w') : wpList P ops Q (⟨dst, .mapUpdate t m x v, ty, pos, aft, none⟩ :: rest) a w := by
  refine wpList_plain rfl fun K' hK' => ?_
  rcases hn with hn | hn
  · obtain ⟨w', hrun, r1, r2⟩ := h.put ht hk s val hn
    unfold Oper.wp
    simp [execOp, hm, hx, hv, hrun, Result.andThen]
    exact hK' _ _ (hK w' (by rw [if_pos hn]; exact r1) r2)
  · obtain ⟨w', hrun, r1, r2⟩ := h.putSame ht hk s val hn
    unfold Oper.wp
    simp [execOp, hm, hx, hv, hrun, Result.andThen]
    exact hK' _ _ (hK w' (by rw [if_neg (by rw [hn]; simp)]; exact r1) r2)
theorem wpMapPut {K : Act → World → Prop} {m x v : Operand} (ho : o.op = .mapUpdate t m x v) (h : MapIs w mb L) (ht : P.underlying t = some (.map k e)) (hk : P.underlying k = some .string) (s : ByteArray) (val : Value) (hn : getM L s = none)
    (hm : a.eval m = .map (some mb)) (hx : a.eval x = .string s) (hv : a.eval v = val)
    (hK : ∀ w', MapIs w' mb (L ++ [(s, val)]) → But w w' mb → K (a.put o.dst undef) w') : o.wp P a w K Q := by
  obtain ⟨w', hrun, r1, r2⟩ := h.put ht hk s val hn
  unfold Oper.wp
  simp [execOp, ho, hm, hx, hv, hrun, Result.andThen]
  exact hK w' r1 r2
theorem mapDel {m x : Operand} (h : MapIs w mb L) (ht : P.underlying t = some (.map k e)) (hk : P.underlying k = some .string) (s : ByteArray)
    (hm : a.eval m = .map (some mb)) (hx : a.eval x = .string s)
    (hK : ∀ w', MapIs w' mb (L.filter fun p => !decide (p.1 = s)) → But w w' mb → wpList P ops Q rest (a.put dst (.tuple #[])) w') : wpList P ops Q (⟨dst, .call { callee := .builtin .delete, args := #[m, x], argTypes := #[t, k] }, ty, pos, aft, none⟩ :: rest) a w := by
  refine wpList_plain rfl fun K' hK' => ?_
  obtain ⟨w', hrun, r1, r2⟩ := h.del (ty := ty) ht hk s
  unfold Oper.wp
  simp [execOp, resolve, invoke, builtin, hm, hx, hrun, Result.andThen]
  exact hK' _ _ (hK w' r1 r2)
end
end Go.Proofs.YtfofapggmoibkaaGreatDoor
