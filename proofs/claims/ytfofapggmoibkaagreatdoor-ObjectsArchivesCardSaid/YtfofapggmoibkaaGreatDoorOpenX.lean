/- From the arguments' readings to what the walks ask, and back. -/
import Derived.Test.YtfofapggmoibkaaGreatDoorCards
import Derived.Test.YtfofapggmoibkaaGreatDoorTie
import Derived.Test.YtfofapggmoibkaaGreatDoorFileX
import Derived.ProofKit
import Derived.OpenShut
import Derived.Carry
import Derived.Deep.DeepHandedRow
import Derived.Deep.Slices
import Derived.SliceStrings
import Derived.Lib.SmallJoins
import Derived.SizedLaws
import Derived.Shelf.Vars
set_option linter.unusedVariables false
set_option linter.unusedSimpArgs false
namespace Go.Proofs.YtfofapggmoibkaaGreatDoor
open Go Go.RowKit Go.ChangeShapes Go.WideShapes Go.ChangeAt

theorem own : ownKnob Tryz.prog.godebug = none := by kernel_rfl
theorem laidOut : laidOutB Tryz.prog = true := by kernel_rfl
section
variable {H : Type} {enc : TypeId × Value → H}
theorem trodAll_ext {W W' : World} (hx : Ext W W') (ts : List TypeId) : ∀ {vs : List Value} {ds : List (DataW H)} {p : List MemPlace}, (∀ t ∈ ts, Tryz.prog.readableRec t = true ∧ t < Tryz.prog.types.size) → (∀ x ∈ p, x.block < W.heap.size) →
    DataW.TrodAll enc Tryz.prog W 0 (fun _ => true) true ts vs ds p → DataW.TrodAll enc Tryz.prog W' 0 (fun b => decide (b < W.heap.size)) true ts vs ds p := by
  induction ts with
  | nil =>
    intro vs ds p _ _ h
    obtain ⟨rfl, rfl, rfl⟩ := trodAll_nil h
    exact trodAll_mk0
  | cons t ts ih =>
    intro vs ds p ht hp h
    obtain ⟨v, vs', d, ds', a, b, rfl, rfl, rfl, h1, h2⟩ := trodAll_cons h
    obtain ⟨t1, t2⟩ := ht t List.mem_cons_self
    exact ⟨a, b, Below.trod laidOut t1 t2 h1 hx (fun x hx => hp x (List.mem_append_left _ hx)), ih (fun t h => ht t (List.mem_cons_of_mem _ h)) (fun x hx => hp x (List.mem_append_right _ hx)) h2, rfl⟩
/-- the call answers true, and what was below the heap's end is as it was: what a law's row asks. -/
theorem post_true {s : ChangeSpec} {f : Func} {W W' : World} {args : Array Value} {ds gs : List (DataW H)} {before : List MemPlace} (hv : s.vars = []) (hr : f.resultTypes = #[4])
    (hp : (f.params.toList.all fun t => Tryz.prog.readableRec t && decide (t < Tryz.prog.types.size)) = true) (hres : (s.fn H (ds ++ gs)).results = [.lit (.bool true)]) (hargs : (s.fn H (ds ++ gs)).args = ds) (hvars : (s.fn H (ds ++ gs)).vars = [])
    (hW : DataW.Whole enc Tryz.prog f.params.toList s.vars false W args.toList ds gs before) (hx : Ext W W') : s.post enc Tryz.prog f false true false false W args (.bool true) W' := by
  have hlt : ∀ p ∈ before, p.block < W.heap.size := fun p hp => by simpa using hW.lt p hp
  have hW' := hW
  obtain ⟨p, q, hA, hV, rfl, _, _⟩ := hW
  rw [hv] at hV
  obtain ⟨rfl, rfl⟩ := trodVars_none hV
  refine ⟨ds, [], p ++ [], [], p, [], hW', ?_, ?_, ?_, Below.frame hx _, fun h => by cases h⟩
  · rw [hr, hres]
    exact trodAll_mk1 (shut_bool Tryz.underlying4 _)
  · rw [hargs]
    exact trodAll_ext hx _ (fun t ht => by have h := List.all_eq_true.1 hp t ht; rw [Bool.and_eq_true] at h; exact ⟨h.1, of_decide_eq_true h.2⟩) (fun x hx => hlt x (List.mem_append_left _ hx)) hA
  · rw [hvars, hv]
    rfl
theorem gv_shaped {W : World} (h : W.ShapedOpen Tryz.prog) : GV W :=
  cell_of_shapedOpen_int (zero := #[.int .i64 0]) (t := 3) h (of_decide_eq_true (by kernel_rfl)) (by kernel_rfl) rfl (by kernel_rfl) (by kernel_rfl) Tryz.underlying3
theorem list_toArray (s : ByteArray) : (⟨s.data.toList.toArray⟩ : ByteArray) = s := by apply ByteArray.ext; simp
/-- a field or a cell of the type []string -/
theorem open_strsV {W : World} {n : Nat} {v : Value} {y : DataW H × List MemPlace} (h : DataW.trod enc Tryz.prog W 0 (fun _ => true) true n 22 [v] = some y) (hspot : ∀ a l c, v = .slice (some a) l c → a.spot = none)
    (hw : ∀ k ∈ y.1.weights Tryz.prog 22, k ≤ reachBytes) : ∃ (A : Option Addr) (l : List ByteArray) (c : Nat), v = .slice A l.length c ∧ l.length ≤ c ∧ StrsAt W A l ∧ l.length ≤ 8796093021952 ∧ ∀ x ∈ l, x.size ≤ reachBytes := by
  rcases open_strings Tryz.underlying22 Tryz.underlying9 (by kernel_rfl) h with ⟨hcs, hx⟩ | ⟨a, len, cap, ss, hcs, _, hl, hm, hss, hx, hc, hz⟩
  · simp only [List.cons.injEq, and_true] at hcs
    subst hcs
    exact ⟨none, [], 0, rfl, Nat.le_refl _, .inl ⟨rfl, rfl⟩, by simp, by simp⟩
  · simp only [List.cons.injEq, and_true] at hcs
    subst hcs
    rw [if_pos rfl] at hss
    have hsp := hspot _ _ _ rfl
    obtain ⟨b, off, spot⟩ := a
    simp only at hsp
    subst hsp
    subst hx
    have hwt := hw _ (by simp only [DataW.weights, Tryz.underlying22]; exact List.mem_cons_self)
    simp only [Go.ChangeShapes.strs, List.length_map, List.length_take, List.length_drop, show Tryz.prog.bytesOf 9 = 16 by kernel_rfl] at hwt
    have hr : reachBytes = 140737488351232 := rfl
    refine ⟨_, ss.take len, cap, by rw [List.length_take, Nat.min_eq_left (by omega)], by rw [List.length_take]; omega, .inr ⟨b, off, rfl, fun i s hi => ?_⟩, by rw [List.length_take]; omega, fun x hx => ?_⟩
    · have hi' := (List.getElem?_eq_some_iff.1 hi).1
      rw [List.length_take] at hi'
      have := hc i (by omega)
      rw [Go.WideShapes.add_plain] at this
      rw [this]
      rw [List.getElem?_take_of_lt (by omega)] at hi
      rw [List.getD_eq_getElem?_getD, hi]; rfl
    · have hmem : (DataW.lit (.string x.data.toList) : DataW H) ∈ (ss.take len).map (fun s => (DataW.lit (.string s.data.toList) : DataW H)) := List.mem_map.2 ⟨x, hx, rfl⟩
      have hwm : ∀ (l : List ByteArray), x ∈ l → x.data.toList.length ∈ DataW.weightsAll Tryz.prog 9 (l.map (fun s => (DataW.lit (.string s.data.toList) : DataW H))) := by
        intro l
        induction l with
        | nil => intro h; simp at h
        | cons z l ih =>
          intro h
          simp only [List.map_cons, DataW.weightsAll, DataW.weights, List.mem_append, List.mem_singleton]
          rcases List.mem_cons.1 h with rfl | h
          · exact .inl rfl
          · exact .inr (ih h)
      have := hw x.data.toList.length (by
        simp only [DataW.weights, Tryz.underlying22]
        exact List.mem_cons_of_mem _ (List.mem_append_left _ (hwm _ hx)))
      rwa [data_len] at this
theorem cellTypes_obj : Tryz.prog.cellTypes Tryz.prog.depth 24 = some [3, 22, 9] := by kernel_rfl
theorem oneCell_obj (f0 f1 f2 : Field) (h : Tryz.prog.underlying 24 = some (.struct #[f0, f1, f2])) : True := trivial
/- an argument of the type api.Object -/
set_option maxRecDepth 100000 in
theorem open_obj {W : World} {base : Nat} {v : Value} {d : DataW H} {p : List MemPlace} (hv : Value.okWide Tryz.prog W .any base 24 v) (h : DataW.Trod enc Tryz.prog W 0 (fun _ => true) true 24 v d p)
    (hw : ∀ k ∈ d.weights Tryz.prog 24, k ≤ reachBytes) :
    ∃ (o : Obj) (A : Option Addr) (c : Nat), v = .agg (objC o A c) ∧ StrsAt W A o.refs ∧ o.refs.length ≤ c ∧ o.refs.length ≤ 8796093021952 ∧ o.data.size ≤ reachBytes ∧ ∀ x ∈ o.refs, x.size ≤ reachBytes := by
  have hv' := hv
  obtain ⟨v0, v1, v2, y0, y1, y2, n, rfl, rfl, rfl, h0, h1, h2⟩ := Joins.open_agg3 Tryz.underlying24 (by kernel_rfl) (by kernel_rfl) hv h
  obtain ⟨k, e0, hy0, _⟩ := DataW.trod_int Tryz.underlying3 h0
  obtain ⟨s, e2, hy2, _⟩ := DataW.trod_string Tryz.underlying9 h2
  simp only [List.cons.injEq, and_true] at e0 e2
  subst e0; subst e2; subst hy0; subst hy2
  have hw' : ∀ m : Nat, m ∈ DataW.weightsEach Tryz.prog [3, 22, 9] [DataW.lit (.int .i64 k), y1.1, DataW.lit (.string s.data.toList)] → m ≤ reachBytes := by
    intro m hk
    refine hw m ?_
    simp only [DataW.weights, Tryz.underlying24]
    exact hk
  simp only [DataW.weightsEach, DataW.weights, List.nil_append, List.append_nil] at hw'
  obtain ⟨A, l, c, rfl, hc, hA, hl, hz⟩ := open_strsV h1 (by
    intro a l c e
    subst e
    simp only [Value.okWide, Tryz.underlying24] at hv'
    obtain ⟨cs, e, _, ts, hts, _, hall⟩ := hv'
    rw [cellTypes_obj] at hts
    simp only [Option.some.injEq] at hts
    subst hts
    simp only [Value.agg.injEq] at e
    subst e
    obtain ⟨u, hu, hk⟩ := hall 1 _ rfl
    simp only [List.length_cons, List.length_nil] at hu
    obtain rfl : 22 = u := by simpa using hu
    simp only [Cell.okWide, Tryz.underlying22, Cell.ok] at hk
    exact hk.2.2.2.1) (fun m hk => hw' m (List.mem_append_left _ hk))
  refine ⟨⟨k, l, s⟩, A, c, rfl, hA, hc, hl, ?_, hz⟩
  have := hw' s.data.toList.length (List.mem_append_right _ (by simp))
  rwa [data_len] at this
end
end Go.Proofs.YtfofapggmoibkaaGreatDoor
