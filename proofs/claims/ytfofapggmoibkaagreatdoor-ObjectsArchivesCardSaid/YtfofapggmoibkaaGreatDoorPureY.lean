/- Archives: the reference's files are good exactly if the program's are; plain. -/
import Derived.Test.YtfofapggmoibkaaGreatDoorProg
import Derived.Test.YtfofapggmoibkaaGreatDoorRefY
import Derived.Test.YtfofapggmoibkaaGreatDoorFileY
import Derived.Sort.Walk0
set_option linter.unusedVariables false
set_option linter.unusedSimpArgs false
namespace Go.Proofs.YtfofapggmoibkaaGreatDoor
open Go Go.RowKit

theorem ltB_iff (a b : ByteArray) : ltB a b = true ↔ a.data.toList < b.data.toList := by
  rw [ltB, Go.Proofs.bytesLess_eq, Go.ByteArray.toList_eq, Go.ByteArray.toList_eq, decide_eq_true_eq]
theorem lt_longer : ∀ (l : List UInt8) (b : UInt8) (r : List UInt8), l < l ++ b :: r
  | [], b, r => by simp
  | a :: l, b, r => by
    rw [List.cons_append, List.cons_lt_cons_iff]
    exact .inr ⟨rfl, lt_longer l b r⟩
theorem begins_split {s p : ByteArray} (h : beginsP s p = true) : ∃ r, s.data.toList = p.data.toList ++ r := by
  rw [beginsP, Bool.and_eq_true, decide_eq_true_eq, decide_eq_true_eq] at h
  refine ⟨s.data.toList.drop p.size, ?_⟩
  have e : p.data.toList = s.data.toList.take p.size := by
    have := congrArg (fun x : ByteArray => x.data.toList) h.2
    simp only [ext_list, List.drop_zero, Nat.sub_zero] at this
    exact this.symm
  rw [e, List.take_append_drop]
theorem begins_of {s p : ByteArray} {r : List UInt8} (h : s.data.toList = p.data.toList ++ r) : beginsP s p = true := by
  have hs : p.size ≤ s.size := by rw [← data_len, ← data_len, h, List.length_append]; omega
  rw [beginsP, decide_eq_true hs, Bool.true_and, decide_eq_true_eq]
  apply ByteArray.ext
  apply Array.ext'
  have e := ext_list s 0 p.size
  rw [List.drop_zero, Nat.sub_zero, h, List.take_append_of_le_length (by rw [data_len]; omega), List.take_of_length_le (by rw [data_len]; omega)] at e
  exact e
/-- a name under another one -/
theorem under_begins {s x : ByteArray} (h : ∃ k, k < s.size ∧ byt s k = 47 ∧ s.extract 0 k = x) : beginsP s (x ++ slashB) = true := by
  obtain ⟨k, hk, h47, rfl⟩ := h
  refine begins_of (r := s.data.toList.drop (k + 1)) ?_
  have hb : s.data.toList[k]? = some 47 := by rw [byt_list hk, h47]; rfl
  obtain ⟨hl, hv⟩ := List.getElem?_eq_some_iff.1 hb
  have h1 : s.data.toList.drop k = 47 :: s.data.toList.drop (k + 1) := by rw [← List.getElem_cons_drop hl, hv]
  have h2 : (s.extract 0 k ++ slashB).data.toList = s.data.toList.take k ++ [47] := by
    have : (s.extract 0 k ++ slashB).data.toList = (s.extract 0 k).data.toList ++ slashB.data.toList := by simp
    rw [this, ext_list, List.drop_zero, Nat.sub_zero]
  rw [h2, List.append_assoc]
  exact (List.take_append_drop k _).symm.trans (by rw [h1]; rfl)
theorem begins_under {s x : ByteArray} (h : beginsP s (x ++ slashB) = true) : ∃ k, k < s.size ∧ byt s k = 47 ∧ s.extract 0 k = x := by
  obtain ⟨r, hr⟩ := begins_split h
  have e0 : (x ++ slashB).data.toList = x.data.toList ++ [47] := by simp
  rw [e0, List.append_assoc] at hr
  have hlen : s.size = x.size + (1 + r.length) := by rw [← data_len, hr]; simp; omega
  refine ⟨x.size, by omega, byt_eq (b := 47) ?_, ?_⟩
  · rw [hr, List.getElem?_append_right (by rw [data_len]; exact Nat.le_refl _), data_len, Nat.sub_self]; rfl
  · apply ByteArray.ext
    apply Array.ext'
    have e := ext_list s 0 x.size
    rw [List.drop_zero, Nat.sub_zero, hr, List.take_append_of_le_length (by rw [data_len]; exact Nat.le_refl _), List.take_of_length_le (by rw [data_len]; exact Nat.le_refl _)] at e
    exact e
theorem goodK_iff (fs : List FileT) : ∀ n, n ≤ fs.length → (goodK fs n = true ↔ ∀ k f, k < n → fs[k]? = some f → goodF (fs.take k) f = true) := by
  intro n
  induction n with
  | zero => intro _; exact ⟨fun _ k f h => by omega, fun _ => rfl⟩
  | succ n ih =>
    intro hn
    have hg : fs[n]? = some fs[n] := List.getElem?_eq_getElem (by omega)
    rw [goodK, Bool.and_eq_true, ih (by omega), hg]
    constructor
    · rintro ⟨h1, h2⟩ k f hk hf
      rcases Nat.lt_or_ge k n with h | h
      · exact h1 k f h hf
      · obtain rfl : k = n := by omega
        rw [hg] at hf; injection hf with hf; subst hf; exact h2
    · intro h
      exact ⟨fun k f hk hf => h k f (by omega) hf, h n _ (by omega) hg⟩
theorem sorted_of {fs : List FileT} {n : Nat} (h : ∀ k f g, 0 < k → k < n → fs[k]? = some f → fs[k - 1]? = some g → ltB g.1 f.1 = true) : ∀ d i f g, i + d + 1 < n → n ≤ fs.length → fs[i]? = some g → fs[i + d + 1]? = some f → ltB g.1 f.1 = true
  | 0, i, f, g, h1, _, hg, hf => h (i + 1) f g (by omega) (by omega) hf hg
  | d + 1, i, f, g, h1, hn, hg, hf => by
    have hm : fs[i + d + 1]? = some fs[i + d + 1] := List.getElem?_eq_getElem (by omega)
    have a := sorted_of h d i _ g (by omega) hn hg hm
    have b := h (i + (d + 1) + 1) f _ (by omega) (by omega) hf hm
    rw [ltB_iff] at *
    exact List.lt_trans a b
theorem last_take {fs : List FileT} {k : Nat} (h0 : 0 < k) (hk : k ≤ fs.length) : (fs.take k).getLast? = fs[k - 1]? := by
  rw [List.getLast?_take]
  have hlt : k - 1 < fs.length := by omega
  simp [List.getElem?_eq_getElem hlt]
  omega
theorem vfE_eq (fs : List FileT) : vfE fs = arcE fs := by
  have key : (∀ i, i < fs.length → okI fs i) ↔ goodK fs fs.length = true := by
    rw [goodK_iff fs _ (Nat.le_refl _)]
    constructor
    · intro h k f hk hf
      have hok := h k hk
      rw [okI, hf] at hok
      obtain ⟨h1, h2, h3⟩ := hok
      have hu : under f.1 ((fs.take k).map (·.1)) = false := by
        rw [Bool.eq_false_iff]
        intro hu
        obtain ⟨j, hj, h47, hm⟩ := under_iff.1 hu
        obtain ⟨g, hg, he⟩ := List.mem_map.1 hm
        obtain ⟨i, hi, hgi⟩ := List.mem_iff_getElem.1 hg
        rw [List.length_take] at hi
        have hgi' : fs[i]? = some g := by rw [← hgi, List.getElem_take]; exact List.getElem?_eq_getElem _
        have hoki := h i (by omega)
        rw [okI, hgi'] at hoki
        have := hoki.2.2 k f hf
        rw [under_begins ⟨j, hj, h47, he.symm⟩] at this
        cases this
      rw [goodF, h1, hu]
      rcases Nat.eq_zero_or_pos k with h0 | h0
      · subst h0; rfl
      · rw [last_take h0 (by omega)]
        have hg1 : fs[k - 1]? = some fs[k - 1] := List.getElem?_eq_getElem (by omega)
        rw [hg1]
        simp only [h2 _ h0 hg1]
        rfl
    · intro h i hi
      have hgi : fs[i]? = some fs[i] := List.getElem?_eq_getElem hi
      have hadj : ∀ k f g, 0 < k → k < fs.length → fs[k]? = some f → fs[k - 1]? = some g → ltB g.1 f.1 = true := by
        intro k f g h0 hk hf hg
        have := h k f hk hf
        rw [goodF, last_take h0 (by omega), hg] at this
        simp only [Bool.and_eq_true] at this
        exact this.1.2
      have hgf := h i _ hi hgi
      rw [okI, hgi]
      rw [goodF, Bool.and_eq_true, Bool.and_eq_true] at hgf
      refine ⟨hgf.1.1, fun g h0 hg => hadj i _ g h0 hi hgi hg, fun k g hk => ?_⟩
      rw [Bool.eq_false_iff]
      intro hb
      have hkl := (List.getElem?_eq_some_iff.1 hk).1
      rcases Nat.lt_trichotomy k i with hlt | heq | hgt
      · have hs := sorted_of hadj (i - k - 1) k fs[i] g (by omega) (Nat.le_refl _) hk (by rw [show k + (i - k - 1) + 1 = i by omega]; exact hgi)
        obtain ⟨r, hr⟩ := begins_split hb
        rw [ltB_iff] at hs
        have e0 : (fs[i].1 ++ slashB).data.toList = fs[i].1.data.toList ++ [47] := by simp
        rw [e0, List.append_assoc] at hr
        have hl := lt_longer fs[i].1.data.toList 47 r
        rw [show fs[i].1.data.toList ++ 47 :: r = g.1.data.toList by rw [hr]; rfl] at hl
        exact List.lt_irrefl _ (List.lt_trans hs hl)
      · subst heq
        rw [hgi] at hk; injection hk with hk; subst hk
        obtain ⟨r, hr⟩ := begins_split hb
        have := congrArg List.length hr
        simp at this
      · have hgk := h k g hkl hk
        rw [goodF, Bool.and_eq_true] at hgk
        obtain ⟨j, hj, h47, he⟩ := begins_under hb
        have hu : under g.1 ((fs.take k).map (·.1)) = true := under_iff.2 ⟨j, hj, h47, by
          rw [he]
          refine List.mem_map.2 ⟨fs[i], ?_, rfl⟩
          exact List.mem_iff_getElem.2 ⟨i, by rw [List.length_take]; omega, by rw [List.getElem_take]⟩⟩
        rw [hu] at hgk
        cases hgk.2
  rw [vfE, arcE]
  by_cases h : goodK fs fs.length = true
  · rw [if_pos h, if_pos (key.2 h)]
  · rw [if_neg h, if_neg (fun hh => h (key.1 hh))]
end Go.Proofs.YtfofapggmoibkaaGreatDoor
