/- Plain laws of the canonical bytes: what is written is read, and what is read was written so. Plain laws of objects: decoding and encoding are inverse; both decoders agree. -/
import Derived.Test.YtfofapggmoibkaaGreatDoorRefX
set_option linter.unusedVariables false
set_option linter.unusedSimpArgs false
namespace Go.Proofs.YtfofapggmoibkaaGreatDoor
open Go Go.RowKit

/-- the bytes t lie in s at a -/
def At (s : ByteArray) (a : Nat) (t : List UInt8) : Prop := ∃ u v : List UInt8, s.data.toList = u ++ t ++ v ∧ u.length = a
theorem At.app {s : ByteArray} {a : Nat} {t1 t2 : List UInt8} (h1 : At s a t1) (h2 : At s (a + t1.length) t2) : At s a (t1 ++ t2) := by
  obtain ⟨u, v, e1, l1⟩ := h1
  obtain ⟨u', v', e2, l2⟩ := h2
  rw [e1, List.append_assoc u'] at e2
  obtain ⟨h3, h4⟩ := List.append_inj e2 (by rw [List.length_append, l1, l2])
  exact ⟨u, v', by rw [e1, h4]; simp, l1⟩
theorem At.left {s : ByteArray} {a : Nat} {t1 t2 : List UInt8} (h : At s a (t1 ++ t2)) : At s a t1 := by
  obtain ⟨u, v, e, l⟩ := h
  exact ⟨u, t2 ++ v, by rw [e]; simp, l⟩
theorem At.right {s : ByteArray} {a : Nat} {t1 t2 : List UInt8} (h : At s a (t1 ++ t2)) : At s (a + t1.length) t2 := by
  obtain ⟨u, v, e, l⟩ := h
  exact ⟨u ++ t1, v, by rw [e]; simp, by rw [List.length_append, l]⟩
theorem At.le {s : ByteArray} {a : Nat} {t : List UInt8} (h : At s a t) : a + t.length ≤ s.size := by
  obtain ⟨u, v, e, l⟩ := h
  have := congrArg List.length e
  rw [data_len] at this
  simp at this; omega
theorem At.byte {s : ByteArray} {a : Nat} {b : UInt8} {t : List UInt8} (h : At s a (b :: t)) : byt s a = b.toNat ∧ a < s.size := by
  have hl := h.le
  obtain ⟨u, v, e, l⟩ := h
  refine ⟨?_, by simp at hl; omega⟩
  unfold byt
  rw [e]
  subst l
  simp [List.getD_eq_getElem?_getD]
theorem At.one {s : ByteArray} {a : Nat} (h : a < s.size) : At s a [UInt8.ofNat (byt s a)] := by
  refine ⟨s.data.toList.take a, s.data.toList.drop (a + 1), ?_, by rw [List.length_take, data_len]; omega⟩
  have hlt : a < s.data.toList.length := by rw [data_len]; exact h
  have e : UInt8.ofNat (byt s a) = s.data.toList[a] := by
    unfold byt
    rw [List.getD_eq_getElem?_getD, List.getElem?_eq_getElem hlt]
    simp
  rw [e]
  have h1 : s.data.toList.take (a + 1) = s.data.toList.take a ++ [s.data.toList[a]] := by
    rw [List.take_add_one, List.getElem?_eq_getElem hlt]; rfl
  rw [← h1, List.take_append_drop]
theorem uv_pos (n : Nat) : 0 < (uv n).length := by
  by_cases h : n < 128
  · rw [uv_small h]; simp
  · rw [uv_big h]; simp
theorem scanL_reads (s : ByteArray) (at_ : Nat) : ∀ (v fuel k acc : Nat), k + fuel = 11 → v * 128 ^ k < 18446744073709551616 → (0 < v ∨ k = 0) → At s (at_ + k) (uv v) →
    scanL s at_ fuel k acc = (acc + v * 128 ^ k, at_ + k + (uv v).length, true) := by
  intro v
  induction v using Nat.strongRecOn with
  | _ v ih =>
    intro fuel k acc hf hv hp hA
    have hk : k < 10 := by
      rcases Nat.lt_or_ge k 10 with h | h
      · exact h
      · exfalso
        have h1 : 128 ^ 10 ≤ 128 ^ k := Nat.pow_le_pow_right (by omega) h
        have h2 : 1 * 128 ^ k ≤ v * 128 ^ k := Nat.mul_le_mul_right _ (by omega)
        omega
    have h9 : k = 9 → v < 128 → v ≤ 1 := by
      intro e _
      subst e
      omega
    by_cases hs : v < 128
    · rw [uv_small hs] at hA ⊢
      obtain ⟨hb, hlt⟩ := hA.byte
      have hb' : byt s (at_ + k) = v := by rw [hb]; simp; omega
      rw [scanL_last (by omega) hlt hk (by rw [hb']; intro e; exact h9 e hs) (by rw [hb']; exact hs), hb', Nat.mod_eq_of_lt hs]
      simp only [List.length_singleton]
      rw [show decide (0 < v ∨ k = 0) = true from decide_eq_true hp]
    · rw [uv_big hs] at hA ⊢
      obtain ⟨hb, hlt⟩ := hA.byte
      have hb' : byt s (at_ + k) = v % 128 + 128 := by rw [hb]; simp; omega
      obtain ⟨f, rfl⟩ : ∃ f, fuel = f + 1 := ⟨fuel - 1, by omega⟩
      have hdiv : v / 128 * 128 ^ (k + 1) + v % 128 * 128 ^ k = v * 128 ^ k := by
        rw [Nat.pow_succ, Nat.mul_comm (128 ^ k) 128, ← Nat.mul_assoc, ← Nat.add_mul]
        congr 1; omega
      have hk9 : k ≠ 9 := by
        intro e; subst e
        have : 128 * 128 ^ 9 ≤ v * 128 ^ 9 := Nat.mul_le_mul_right _ (by omega)
        omega
      have hA2 := (show At s (at_ + k) ([UInt8.ofNat (v % 128 + 128)] ++ uv (v / 128)) from hA).right
      rw [scanL_more hlt hk (by intro e; omega) (by rw [hb']; omega), hb', ih (v / 128) (by omega) f (k + 1) _ (by omega) (by omega) (by left; omega) (by simpa [Nat.add_assoc] using hA2)]
      refine Prod.ext ?_ (Prod.ext ?_ rfl)
      · simp only; rw [show (v % 128 + 128) % 128 = v % 128 by omega]; omega
      · simp only [List.length_cons]; omega
theorem scanL_wrote (s : ByteArray) (at_ : Nat) : ∀ (fuel k acc : Nat), (scanL s at_ fuel k acc).2.2 = true → ∃ v, (scanL s at_ fuel k acc).1 = acc + v * 128 ^ k ∧ (scanL s at_ fuel k acc).2.1 = at_ + k + (uv v).length ∧ At s (at_ + k) (uv v) ∧ (0 < v ∨ k = 0) := by
  intro fuel
  induction fuel with
  | zero => intro k acc h; simp [scanL] at h
  | succ fuel ih =>
    intro k acc h
    rw [scanL] at h ⊢
    by_cases h1 : s.size ≤ at_ + k ∨ 10 ≤ k
    · rw [if_pos h1] at h; simp at h
    · rw [if_neg h1] at h ⊢
      by_cases h2 : k = 9 ∧ 1 < byt s (at_ + k)
      · rw [if_pos h2] at h; simp at h
      · rw [if_neg h2] at h ⊢
        have hlt : at_ + k < s.size := by omega
        have hb := byt_lt s (at_ + k)
        by_cases h3 : byt s (at_ + k) < 128
        · rw [if_pos h3] at h ⊢
          refine ⟨byt s (at_ + k), by simp only; rw [Nat.mod_eq_of_lt h3], by rw [uv_small h3]; rfl, by rw [uv_small h3]; exact At.one hlt, by simpa using h⟩
        · rw [if_neg h3] at h ⊢
          obtain ⟨v, e1, e2, e3, e4⟩ := ih _ _ h
          have hv : 0 < v := by omega
          have hbig : ¬ byt s (at_ + k) % 128 + 128 * v < 128 := by omega
          have huv : uv (byt s (at_ + k) % 128 + 128 * v) = UInt8.ofNat (byt s (at_ + k)) :: uv v := by
            rw [uv_big hbig, show (byt s (at_ + k) % 128 + 128 * v) % 128 + 128 = byt s (at_ + k) by omega, show (byt s (at_ + k) % 128 + 128 * v) / 128 = v by omega]
          refine ⟨byt s (at_ + k) % 128 + 128 * v, ?_, ?_, ?_, by left; omega⟩
          · rw [e1, Nat.pow_succ, Nat.add_mul, Nat.mul_comm (128 ^ k) 128, ← Nat.mul_assoc, Nat.mul_comm v 128]; omega
          · rw [e2, huv, List.length_cons]; omega
          · rw [huv]
            exact (At.one hlt).app (by simpa [Nat.add_assoc] using e3)
theorem sizeO_reads {s : ByteArray} {a n : Nat} (hn : n < 9223372036854775808) (h : At s a (uv n)) : sizeO s a = some (n, a + (uv n).length) := by
  have e := scanL_reads s a n 11 0 0 rfl (by simp; omega) (.inr rfl) h
  unfold sizeO scanF
  rw [e]
  simp [hn]
theorem sizeO_wrote {s : ByteArray} {a n next : Nat} (h : sizeO s a = some (n, next)) : At s a (uv n) ∧ next = a + (uv n).length := by
  unfold sizeO at h
  split at h
  · rename_i h1
    obtain ⟨v, e1, e2, e3, _⟩ := scanL_wrote s a 11 0 0 h1.1
    simp only [Option.some.injEq, Prod.mk.injEq] at h
    unfold scanF at h
    rw [e1, e2] at h
    obtain ⟨h2, h3⟩ := h
    have : v = n := by simpa using h2
    subst this
    exact ⟨e3, h3.symm⟩
  · cases h
theorem At.cut {s : ByteArray} {a n : Nat} (h : a + n ≤ s.size) : At s a (s.extract a (a + n)).data.toList := by
  refine ⟨s.data.toList.take a, s.data.toList.drop (a + n), ?_, by rw [List.length_take, data_len]; omega⟩
  simp only [ByteArray.data_extract, Array.toList_extract, List.extract_eq_take_drop]
  rw [show a + n - a = n by omega, List.append_assoc, ← List.drop_drop, List.take_append_drop, List.take_append_drop]
theorem At.uncut {s x : ByteArray} {a : Nat} (h : At s a x.data.toList) : s.extract a (a + x.size) = x := by
  obtain ⟨u, v, e, l⟩ := h
  apply ByteArray.ext
  apply Array.ext'
  simp only [ByteArray.data_extract, Array.toList_extract, List.extract_eq_take_drop]
  rw [e, show a + x.size - a = x.size by omega, ← l, List.append_assoc, List.drop_left, ← data_len x, List.take_left]
theorem txt_list (x : ByteArray) : (txt x).data.toList = uv x.size ++ x.data.toList := by simp [txt, uvs]
theorem textO_reads {s x : ByteArray} {a : Nat} (hx : x.size < 9223372036854775808) (h : At s a (txt x).data.toList) : textO s a = some (x, a + (txt x).size) := by
  have hl := h.le
  rw [txt_list] at h
  have h1 := sizeO_reads hx h.left
  unfold textO
  rw [h1]
  rw [txt_list, List.length_append, data_len] at hl
  simp only
  rw [if_pos (by omega), h.right.uncut, ← data_len (txt x), txt_list, List.length_append, data_len, Nat.add_assoc]
theorem textO_wrote {s x : ByteArray} {a next : Nat} (h : textO s a = some (x, next)) : At s a (txt x).data.toList ∧ next = a + (txt x).size := by
  unfold textO at h
  cases ho : sizeO s a with
  | none => rw [ho] at h; cases h
  | some r =>
    obtain ⟨n, nx⟩ := r
    rw [ho] at h
    simp only at h
    have hb := sizeO_bound ho
    obtain ⟨h1, h2⟩ := sizeO_wrote ho
    split at h
    · rename_i hle
      simp only [Option.some.injEq, Prod.mk.injEq] at h
      obtain ⟨rfl, rfl⟩ := h
      have hz : (s.extract nx (nx + n)).size = n := by rw [ByteArray.size_extract]; omega
      have hc := At.cut (s := s) (a := nx) (n := n) (by omega)
      rw [← data_len (txt _), txt_list, hz]
      refine ⟨h1.app (by rw [← h2]; exact hc), ?_⟩
      rw [List.length_append, data_len, hz]; omega
    · cases h
end Go.Proofs.YtfofapggmoibkaaGreatDoor
namespace Go.Proofs.YtfofapggmoibkaaGreatDoor
open Go Go.RowKit

/-- the bytes of a list of strings behind its length -/
def catL (l : List ByteArray) : List UInt8 := (l.map fun x => (txt x).data.toList).flatten
theorem catT_list (l : List ByteArray) : ∀ z : ByteArray, (catT l z).data.toList = z.data.toList ++ catL l := by
  induction l with
  | nil => intro z; simp [catT, catL]
  | cons x l ih =>
    intro z
    have e : catT (x :: l) z = catT l (z ++ txt x) := rfl
    rw [e, ih]
    simp [catL]
theorem textsB_list (l : List ByteArray) : (textsB l).data.toList = uv l.length ++ catL l := by
  rw [textsB, catT_list]; rfl
theorem txt_pos (x : ByteArray) : 0 < (txt x).data.toList.length := by
  rw [txt_list, List.length_append]
  have := uv_pos x.size
  omega
theorem catL_len (l : List ByteArray) : l.length ≤ (catL l).length := by
  induction l with
  | nil => simp
  | cons x l ih =>
    have e : catL (x :: l) = (txt x).data.toList ++ catL l := rfl
    have := txt_pos x
    rw [e, List.length_append, List.length_cons]; omega
theorem textsL_reads {s : ByteArray} : ∀ (l : List ByteArray) (a : Nat), (∀ x ∈ l, x.size < 9223372036854775808) → At s a (catL l) → textsL s l.length a = some (l, a + (catL l).length)
  | [], a, _, _ => by simp [textsL, catL]
  | x :: l, a, hx, h => by
    have e : catL (x :: l) = (txt x).data.toList ++ catL l := rfl
    rw [e] at h ⊢
    have h1 := textO_reads (hx x (by simp)) h.left
    have h2 := textsL_reads l (a + (txt x).size) (fun y hy => hx y (by simp [hy])) (by rw [← data_len]; exact h.right)
    rw [List.length_cons, textsL, h1]
    simp only
    rw [h2]
    simp only
    rw [List.length_append, data_len, Nat.add_assoc]
theorem textsL_wrote {s : ByteArray} : ∀ (k : Nat) (l : List ByteArray) (a next : Nat), textsL s k a = some (l, next) → l.length = k ∧ (k = 0 ∨ At s a (catL l)) ∧ next = a + (catL l).length
  | 0, l, a, next, h => by
    simp only [textsL, Option.some.injEq, Prod.mk.injEq] at h
    obtain ⟨rfl, rfl⟩ := h
    simp [catL]
  | k + 1, l, a, next, h => by
    simp only [textsL] at h
    cases ht : textO s a with
    | none => rw [ht] at h; cases h
    | some r =>
      obtain ⟨x, nx⟩ := r
      rw [ht] at h
      simp only at h
      obtain ⟨h1, h2⟩ := textO_wrote ht
      cases hl : textsL s k nx with
      | none => rw [hl] at h; cases h
      | some r =>
        obtain ⟨l', n'⟩ := r
        rw [hl] at h
        simp only [Option.some.injEq, Prod.mk.injEq] at h
        obtain ⟨rfl, rfl⟩ := h
        obtain ⟨e1, e2, e3⟩ := textsL_wrote k l' nx n' hl
        have e : catL (x :: l') = (txt x).data.toList ++ catL l' := rfl
        rw [e]
        refine ⟨by rw [List.length_cons, e1], .inr ?_, by rw [List.length_append, data_len]; omega⟩
        rcases e2 with e2 | e2
        · subst e2
          have : l' = [] := List.eq_nil_of_length_eq_zero e1
          subst this
          simpa [catL] using h1
        · exact h1.app (by rw [data_len, ← h2]; exact e2)
theorem textsO_reads {s : ByteArray} {a : Nat} {l : List ByteArray} (hl : l.length < 9223372036854775808) (hx : ∀ x ∈ l, x.size < 9223372036854775808) (h : At s a (textsB l).data.toList) : textsO s a = some (l, a + (textsB l).size) := by
  have hle := h.le
  rw [textsB_list] at h
  have h1 := sizeO_reads hl h.left
  have h2 := textsL_reads l (a + (uv l.length).length) hx h.right
  unfold textsO
  rw [h1]
  simp only
  rw [textsB_list, List.length_append] at hle
  have := catL_len l
  rw [if_pos (by omega), h2, ← data_len (textsB l), textsB_list, List.length_append, Nat.add_assoc]
theorem textsO_wrote {s : ByteArray} {a next : Nat} {l : List ByteArray} (h : textsO s a = some (l, next)) : At s a (textsB l).data.toList ∧ next = a + (textsB l).size := by
  unfold textsO at h
  cases ho : sizeO s a with
  | none => rw [ho] at h; cases h
  | some r =>
    obtain ⟨n, nx⟩ := r
    rw [ho] at h
    simp only at h
    obtain ⟨h1, h2⟩ := sizeO_wrote ho
    split at h
    · obtain ⟨e1, e2, e3⟩ := textsL_wrote n l nx next h
      rw [← data_len (textsB l), textsB_list, e1]
      refine ⟨?_, by rw [List.length_append]; omega⟩
      rcases e2 with e2 | e2
      · subst e2
        have : l = [] := List.eq_nil_of_length_eq_zero e1
        subst this
        simpa [catL] using h1
      · exact h1.app (by rw [← h2]; exact e2)
    · cases h
theorem encB_list (o : Obj) : (encB o).data.toList = uv o.kind.toNat ++ (textsB o.refs).data.toList ++ (txt o.data).data.toList := by simp [encB, uvs]
theorem At.all (s : ByteArray) : At s 0 s.data.toList := ⟨[], [], by simp, rfl⟩
theorem At.whole {s : ByteArray} {t : List UInt8} (h : At s 0 t) (hl : t.length = s.size) : s.data.toList = t := by
  obtain ⟨u, v, e, l⟩ := h
  have hu : u = [] := List.eq_nil_of_length_eq_zero l
  subst hu
  have := congrArg List.length e
  rw [data_len] at this
  simp at this
  have hv : v = [] := List.eq_nil_of_length_eq_zero (by omega)
  subst hv
  simpa using e
/-- what the bytes of an object decode to -/
theorem refDec_enc {o : Obj} (hv : validB o = true) : refDec (encB o) = some o := by
  have ho := validB_ok hv
  obtain ⟨k, l, d⟩ := o
  have k0 := ho.k0; have k1 := ho.k1; have n0 := ho.n; have dd := ho.d; have rr := ho.r
  simp only at k0 k1 n0 dd rr
  have hall := At.all (encB ⟨k, l, d⟩)
  rw [encB_list] at hall
  simp only at hall
  have h1 := sizeO_reads (s := encB ⟨k, l, d⟩) (n := k.toNat) (by omega) hall.left.left
  have h2 := textsO_reads (s := encB ⟨k, l, d⟩) (l := l) (by omega) (fun x hx => by rw [rr x hx]; omega) hall.left.right
  have h3 := textO_reads (s := encB ⟨k, l, d⟩) (x := d) (by omega) hall.right
  have hsz : (encB ⟨k, l, d⟩).size = (uv k.toNat).length + (textsB l).size + (txt d).size := by
    rw [← data_len, encB_list]; simp [data_len]; omega
  rw [List.length_append, data_len] at h3
  unfold refDec refO
  rw [h1]
  simp only
  rw [h2]
  simp only
  rw [show 0 + (uv k.toNat).length + (textsB l).size = 0 + ((uv k.toNat).length + (textsB l).size) by omega, h3]
  simp only
  rw [show ((k.toNat : Nat) : Int) = k by omega, if_pos hv]
  simp only
  rw [if_pos (by rw [hsz]; omega)]
theorem refDec_wrote {s : ByteArray} {o : Obj} (h : refDec s = some o) : validB o = true ∧ encB o = s := by
  unfold refDec refO at h
  cases h1 : sizeO s 0 with
  | none => rw [h1] at h; cases h
  | some r1 =>
    obtain ⟨k, a1⟩ := r1
    rw [h1] at h
    simp only at h
    cases h2 : textsO s a1 with
    | none => rw [h2] at h; cases h
    | some r2 =>
      obtain ⟨l, a2⟩ := r2
      rw [h2] at h
      simp only at h
      cases h3 : textO s a2 with
      | none => rw [h3] at h; cases h
      | some r3 =>
        obtain ⟨d, a3⟩ := r3
        rw [h3] at h
        simp only at h
        by_cases hv : validB ⟨(k : Int), l, d⟩ = true
        · rw [if_pos hv] at h
          simp only at h
          by_cases hn : a3 = s.size
          · rw [if_pos hn] at h
            simp only [Option.some.injEq] at h
            subst h
            refine ⟨hv, ?_⟩
            obtain ⟨p1, p2⟩ := sizeO_wrote h1
            obtain ⟨p3, p4⟩ := textsO_wrote h2
            obtain ⟨p5, p6⟩ := textO_wrote h3
            apply ByteArray.ext
            apply Array.ext'
            rw [encB_list]
            simp only [Int.toNat_natCast]
            symm
            refine At.whole ?_ ?_
            · refine (p1.app (by rw [← p2]; exact p3)).app ?_
              rw [List.length_append, data_len, Nat.zero_add]
              rw [p4, p2, Nat.zero_add] at p5
              exact p5
            · simp only [List.length_append, data_len]; omega
          · rw [if_neg hn] at h; cases h
        · rw [if_neg hv] at h; cases h
/-- both decoders agree -/
theorem decO_eq (s : ByteArray) : decO s = refDec s := by
  unfold decO refDec refO
  cases h1 : sizeO s 0 with
  | none =>
    rw [uintS_no h1]
    simp only
    rw [textsS_err (by simp), textS_err (by simp)]
    simp [endS]
  | some r1 =>
    obtain ⟨k, a1⟩ := r1
    rw [uintS_ok h1]
    simp only
    cases h2 : textsO s a1 with
    | none =>
      rw [textsS_no h2]
      simp only
      rw [textS_err (by simp)]
      simp [endS]
    | some r2 =>
      obtain ⟨l, a2⟩ := r2
      rw [textsS_ok h2]
      simp only
      cases h3 : textO s a2 with
      | none =>
        rw [textS_no h3]
        simp [endS]
      | some r3 =>
        obtain ⟨d, a3⟩ := r3
        have hb := textO_bound h3
        rw [textS_ok h3]
        simp only [endS]
        by_cases hv : validB ⟨(k : Int), l, d⟩ = true
        · rw [if_pos hv]
          simp only
          by_cases hn : a3 = s.size
          · rw [if_pos hn, if_pos]
            exact ⟨by rw [if_neg (by omega)], hv⟩
          · rw [if_neg hn, if_neg]
            rw [if_pos ⟨trivial, by omega⟩]
            simp
        · rw [if_neg hv, if_neg (by intro h; exact hv h.2)]
end Go.Proofs.YtfofapggmoibkaaGreatDoor
