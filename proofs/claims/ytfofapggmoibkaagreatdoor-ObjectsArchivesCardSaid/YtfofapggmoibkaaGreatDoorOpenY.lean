/- From an argument of the type []api.File to what the walks ask. -/
import Derived.Test.YtfofapggmoibkaaGreatDoorOpenX
import Derived.Deep.SlicePairs
set_option linter.unusedVariables false
set_option linter.unusedSimpArgs false
namespace Go.Proofs.YtfofapggmoibkaaGreatDoor
open Go Go.RowKit Go.ChangeShapes Go.WideShapes Go.ChangeAt

def strV : Value → ByteArray
  | .string s => s
  | _ => ⟨#[]⟩
section
variable {H : Type} {enc : TypeId × Value → H}
theorem fcells_at (V0 V1 : Nat → Value) (n : Nat) (h : ∀ i, i < n → ∃ s t, V0 i = .string s ∧ V1 i = .string t) : ∀ i v, (fcells ((List.range n).map fun i => (strV (V0 i), strV (V1 i))))[i]? = some v → (i < n * 2 ∧ v = if i % 2 = 0 then V0 (i / 2) else V1 (i / 2)) := by
  intro i v hi
  have hlt := (List.getElem?_eq_some_iff.1 hi).1
  rw [fcells_len, List.length_map, List.length_range] at hlt
  refine ⟨hlt, ?_⟩
  have hk : i / 2 < n := by omega
  have hg : ((List.range n).map fun i => (strV (V0 i), strV (V1 i)))[i / 2]? = some (strV (V0 (i / 2)), strV (V1 (i / 2))) := by
    rw [List.getElem?_map, List.getElem?_range hk]; rfl
  obtain ⟨g0, g1⟩ := fcells_get hg
  obtain ⟨s, t, e0, e1⟩ := h _ hk
  change _ = some (Value.string (strV (V0 (i / 2)))) at g0
  change _ = some (Value.string (strV (V1 (i / 2)))) at g1
  rw [show strV (V0 (i / 2)) = s by rw [e0]; rfl] at g0
  rw [show strV (V1 (i / 2)) = t by rw [e1]; rfl] at g1
  rcases Nat.mod_two_eq_zero_or_one i with h2 | h2
  · rw [show i / 2 * 2 = i by omega, hi] at g0
    rw [if_pos h2, e0]; exact Option.some.inj g0
  · rw [show i / 2 * 2 + 1 = i by omega, hi] at g1
    rw [if_neg (by omega), e1]; exact Option.some.inj g1
set_option maxRecDepth 100000 in
theorem open_filesV {W : World} {n : Nat} {v : Value} {y : DataW H × List MemPlace} (h : DataW.trod enc Tryz.prog W 0 (fun _ => true) true n 34 [v] = some y) (hspot : ∀ a l c, v = .slice (some a) l c → a.spot = none)
    (hw : ∀ k ∈ y.1.weights Tryz.prog 34, k ≤ reachBytes) : ∃ (A : Option Addr) (fs : List FileT) (c : Nat), v = .slice A fs.length c ∧ RowAt W A (fcells fs) ∧ fs.length ≤ 4398046510976 ∧ ∀ f ∈ fs, f.1.size ≤ reachBytes ∧ f.2.size ≤ reachBytes := by
  rcases Go.Deep.open_slice_pairs Tryz.underlying34 Tryz.underlying41 (by kernel_rfl) rfl rfl (by kernel_rfl) (by kernel_rfl) h with ⟨hcs, hx⟩ | ⟨a, len, cap, m, n', V0, V1, D0, D1, P0, P1, hcs, _, hl, hm, hmm, hx, hc⟩
  · simp only [List.cons.injEq, and_true] at hcs
    subst hcs
    exact ⟨none, [], 0, rfl, .inl ⟨rfl, rfl⟩, by simp, by simp⟩
  · simp only [List.cons.injEq, and_true] at hcs
    subst hcs
    rw [if_pos rfl] at hmm
    have hsp := hspot _ _ _ rfl
    obtain ⟨b, off, spot⟩ := a
    simp only at hsp
    subst hsp
    subst hx
    have hr : reachBytes = 140737488351232 := rfl
    have hst : ∀ i, i < len → ∃ s t : ByteArray, V0 i = .string s ∧ V1 i = .string t ∧ D0 i = .lit (.string s.data.toList) ∧ D1 i = .lit (.string t.data.toList) := by
      intro i hi
      obtain ⟨_, _, h0, h1⟩ := hc i (by omega)
      obtain ⟨s, e0, hy0, _⟩ := DataW.trod_string Tryz.underlying9 h0
      obtain ⟨t, e1, hy1, _⟩ := DataW.trod_string Tryz.underlying9 h1
      simp only [List.cons.injEq, and_true] at e0 e1
      exact ⟨s, t, e0, e1, congrArg Prod.fst hy0, congrArg Prod.fst hy1⟩
    have hwt := hw _ (by simp only [DataW.weights, Tryz.underlying34]; exact List.mem_cons_self)
    simp only [List.length_map, List.length_range, show Tryz.prog.bytesOf 41 = 32 by kernel_rfl] at hwt
    refine ⟨_, (List.range len).map fun i => (strV (V0 i), strV (V1 i)), cap, by rw [List.length_map, List.length_range], .inr ⟨b, off, rfl, fun i v hi => ?_⟩, by rw [List.length_map, List.length_range]; omega, fun f hf => ?_⟩
    · obtain ⟨h1, rfl⟩ := fcells_at V0 V1 len (fun i hi => by obtain ⟨s, t, e0, e1, _⟩ := hst i hi; exact ⟨s, t, e0, e1⟩) i v hi
      obtain ⟨c0, c1, _, _⟩ := hc (i / 2) (by omega)
      rw [add_plain] at c0 c1
      rcases Nat.mod_two_eq_zero_or_one i with h2 | h2
      · rw [if_pos h2, show off + i = off + i / 2 * 2 by omega]; exact c0
      · rw [if_neg (by omega), show off + i = off + (i / 2 * 2 + 1) by omega]; exact c1
    · obtain ⟨i, hi, rfl⟩ := List.mem_map.1 hf
      rw [List.mem_range] at hi
      obtain ⟨s, t, e0, e1, d0, d1⟩ := hst i hi
      have hmem : ∀ (l : List Nat), i ∈ l → ∀ k ∈ DataW.weights Tryz.prog 41 (.agg [D0 i, D1 i]), k ∈ DataW.weightsAll Tryz.prog 41 (l.map fun i => .agg [D0 i, D1 i]) := by
        intro l
        induction l with
        | nil => intro h; simp at h
        | cons z l ih =>
          intro h k hk
          simp only [List.map_cons, DataW.weightsAll, List.mem_append]
          rcases List.mem_cons.1 h with rfl | h
          · exact .inl hk
          · exact .inr (ih h k hk)
      have hall : ∀ k ∈ DataW.weights Tryz.prog 41 (.agg [D0 i, D1 i]), k ≤ reachBytes := fun k hk => hw k (by
        simp only [DataW.weights, Tryz.underlying34]
        exact List.mem_cons_of_mem _ (List.mem_append_left _ (hmem _ (List.mem_range.2 hi) k (by simpa only [DataW.weights, Tryz.underlying41] using hk))))
      have hall' : ∀ k ∈ DataW.weightsEach Tryz.prog [9, 9] [D0 i, D1 i], k ≤ reachBytes := fun k hk => hall k (by simp only [DataW.weights, Tryz.underlying41]; exact hk)
      rw [d0, d1] at hall'
      simp only [DataW.weightsEach, DataW.weights, List.append_nil] at hall'
      rw [e0, e1]
      have k0 := hall' s.data.toList.length (by simp)
      have k1 := hall' t.data.toList.length (by simp)
      rw [data_len] at k0 k1
      exact ⟨k0, k1⟩
set_option maxRecDepth 100000 in
/-- an argument of the type []api.File -/
theorem open_files {W : World} {base : Nat} {v : Value} {d : DataW H} {p : List MemPlace} (hv : Value.okWide Tryz.prog W .any base 34 v) (h : DataW.Trod enc Tryz.prog W 0 (fun _ => true) true 34 v d p)
    (hw : ∀ k ∈ d.weights Tryz.prog 34, k ≤ reachBytes) : ∃ (A : Option Addr) (fs : List FileT) (c : Nat), v = .slice A fs.length c ∧ RowAt W A (fcells fs) ∧ fs.length ≤ 4398046510976 ∧ ∀ f ∈ fs, f.1.size ≤ reachBytes ∧ f.2.size ≤ reachBytes := by
  obtain ⟨a0, len, cap, rfl⟩ := okWide_slice Tryz.underlying34 hv
  obtain ⟨n, hn⟩ := h
  refine open_filesV (n := n) (y := (d, p)) hn ?_ hw
  intro a l c e
  rw [e] at hv
  simp only [Value.okWide, Cell.okWide, Tryz.underlying34, Cell.ok] at hv
  exact hv.2.2.2.1
end
end Go.Proofs.YtfofapggmoibkaaGreatDoor
