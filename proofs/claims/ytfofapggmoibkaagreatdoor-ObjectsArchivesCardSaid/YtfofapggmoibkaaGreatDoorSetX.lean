/- Sets of objects of the program: NewSet, Get, Drop. Sets of objects of the program: Put. Rows of strings of a call's own: pop, append of a slice, sort; the closure of a set as a plain law. The closure of a set: the plain law. Sets of objects of the program: Digests. -/
import Derived.Test.YtfofapggmoibkaaGreatDoorProg
import Derived.Test.YtfofapggmoibkaaGreatDoorObjX
import Derived.Test.YtfofapggmoibkaaGreatDoorFoundB
import Derived.Test.YtfofapggmoibkaaGreatDoorShelf
import Derived.Test.YtfofapggmoibkaaGreatDoorIter
set_option linter.unusedVariables false
set_option linter.unusedSimpArgs false
namespace Go.Proofs.YtfofapggmoibkaaGreatDoor
open Go Go.RowKit

theorem cloneS_any (l : List ByteArray) (A : Option Addr) (c : Nat) (w : World) (hl : l.length ≤ 8000000000000) (hA : StrsAt w A l) :
    Calls Tryz.prog 36 #[.slice A l.length c] w fun e w' => ∃ v, e = .returned v ∧ w'.ownsRow w.heap.size 9 1 v l.length (strs l) ∧ Ext w w' := by
  rcases hA with ⟨rfl, rfl⟩ | ⟨b, off, rfl, hc⟩
  · refine (Tryz.slices_Clone_string_nil 0 c w).mono ?_
    rintro e w' ⟨rfl, rfl⟩
    exact ⟨_, rfl, own_nil _ _ _ _, Ext.refl _⟩
  · refine (Tryz.slices_Clone_string b off l.length c l w (Nat.le_refl _) (by omega) (fun j hj => ?_)).mono ?_
    · refine hc j _ ?_
      rw [List.getD_eq_getElem?_getD, List.getElem?_eq_getElem hj]; rfl
    · rintro e w' ⟨v, rfl, h1, _, h2⟩
      rw [List.take_length] at h1
      exact ⟨v, rfl, h1, h2⟩
theorem own_form {w : World} {B : Nat} {e : TypeId} {v : Value} {l : List ByteArray} (h : w.ownsRow B e 1 v l.length (strs l)) : ∃ A c, v = .slice A l.length c ∧ StrsAt w A l ∧ l.length ≤ c ∧ FreshV B (.slice A l.length c) := by
  have hf := FreshV.own h
  obtain ⟨A, c, rfl, hc, hA⟩ := SlS.own h
  exact ⟨A, c, rfl, hA, hc, hf⟩
/-- what copied hands back -/
def CopyPost (w : World) (o : Obj) (e : Ending) (w' : World) : Prop := ∃ A c, StrsAt w' A o.refs ∧ o.refs.length ≤ c ∧ FreshV w.heap.size (.slice A o.refs.length c) ∧ e = .returned (.agg (objC o A c)) ∧ Ext w w'
set_option maxRecDepth 100000 in
set_option maxHeartbeats 1000000 in
theorem copied_any (o : Obj) (A : Option Addr) (c : Nat) (w : World) (hl : o.refs.length ≤ 8000000000000) (hA : StrsAt w A o.refs) :
    Calls Tryz.prog 67 #[.agg (objC o A c)] w (CopyPost w o) := by
  have HA := Hd.mk hA; clear hA
  have HX0 := Hd.mk (((Ext.refl w).alloc (.cells (objC o A c) 24)).alloc (.cells objZ 24))
  have hz1 : (w.alloc (.cells (objC o A c) 24)).heap.size = w.heap.size + 1 := by simp
  have hz2 : ((w.alloc (.cells (objC o A c) 24)).alloc (.cells objZ 24)).heap.size = w.heap.size + 2 := by simp
  have hb : ((w.alloc (.cells (objC o A c) 24)).alloc (.cells objZ 24)).heap[w.heap.size]? = some (.cells (objC o A c) 24 (0, 0)) := (heap_alloc_old _ _ (by rw [hz1]; omega)).trans (heap_alloc_new w _)
  have hr : ((w.alloc (.cells (objC o A c) 24)).alloc (.cells objZ 24)).heap[w.heap.size + 1]? = some (.cells objZ 24 (0, 0)) := by
    have := heap_alloc_new (w.alloc (.cells (objC o A c) 24)) (.cells objZ 24)
    rwa [hz1] at this
  have HB := Hd.mk hb; have HR := Hd.mk hr; have HZ2 := Hd.mk hz2; clear hb hr hz1 hz2
  go_enter Tryz.func67, Tryz.ntmps67
  go_wp2_with fail
  refine (cloneS_any o.refs A c _ hl (HA.out.ext HX0.out)).mono ?_; rintro e w1 ⟨v, rfl, hown, hx1⟩
  obtain ⟨A', c', rfl, hA', hc', hf'⟩ := own_form hown
  have hf' := (show FreshV ((w.alloc (.cells (objC o A c) 24)).alloc (.cells objZ 24)).heap.size _ from hf')
  rw [HZ2.out] at hf'
  have hb1 := hx1.obj HB.out
  have hr1 := hx1.obj HR.out
  have q1 := cell_of hb1 (j := 1) (v := .slice A o.refs.length c) rfl
  have qf := free_of hb1 1
  have HX1 := Hd.mk (HX0.out.trans hx1)
  have hb2 := (set_block (j := 1) hb1 (.slice A' o.refs.length c'))
  have hr2 := (set_other (w := w1) (b := w.heap.size) (j := 1) (.slice A' o.refs.length c') (show w.heap.size + 1 ≠ w.heap.size by omega)).trans hr1
  rw [show (objC o A c).setIfInBounds 1 (.slice A' o.refs.length c') = objC o A' c' from rfl] at hb2
  have HB2 := Hd.mk hb2; have HR2 := Hd.mk hr2; have HA' := Hd.mk hA'; have HF := Hd.mk hf'
  clear hb1 hr1 hb2 hr2 hown hx1 hA' hf'
  go_wp2_with (first
    | (refine ldRow 24 w.heap.size ?_ 24 (objC o A' c') _ HB2.out Tryz.underlying24 ?_ ?_ ?_; rfl; rfl; exact size_obj)
    | (refine stRow 24 (w.heap.size + 1) (objC o A' c') ?_ ?_ 24 objZ ?_ ?_ ?_ ?_ ?_; rfl; rfl; exact HR2.out; exact size_obj; rfl; exact objC_one _ _ _))
  refine bodyPost_ret (v := .agg (objC o A' c')) ?_ (by rfl) ⟨A', c', ?_, hc', HF.out.mono (by omega), rfl, ?_⟩
  · exact results_cell_row (p := 2) (ty := 24) rfl _ _ (w.heap.size + 1) 24 (objC o A' c') (0, 0) _ (by rfl) (row_block HR2.out) Tryz.underlying24 rfl size_obj
  · refine StrsAt.row' ?_ (HF.out.ne (by omega)) _
    exact HA'.out.move fun b off hA hlt => set_other _ (HF.out.ne (by omega) b off hA)
  · exact (HX1.out.set (Nat.le_refl _) _ _).row (by omega) _

/-! sets -/
abbrev Ent := ByteArray × Obj × Option Addr × Nat
def entV (q : Ent) : ByteArray × Value := (q.1, .agg (objC q.2.1 q.2.2.1 q.2.2.2))
def entO (q : Ent) : ByteArray × Obj := (q.1, q.2.1)
/-- block sb is a set over the map in block mb, with the entries S -/
def SetAt (w : World) (sb mb : Nat) (S : List (ByteArray × Obj)) : Prop :=
  w.heap[sb]? = some (.cells #[.map (some mb)] 96 (0, 0)) ∧ ∃ L : List Ent, MapIs w mb (L.map entV) ∧ (∀ q ∈ L, StrsAt w q.2.2.1 q.2.1.refs) ∧ S = L.map entO
def getS (S : List (ByteArray × Obj)) (d : ByteArray) : Option Obj := (S.find? fun p => decide (p.1 = d)).map (·.2)
theorem getS_ent (L : List Ent) (d : ByteArray) : (getM (L.map entV) d = none ∧ getS (L.map entO) d = none) ∨ ∃ q ∈ L, q.1 = d ∧ getM (L.map entV) d = some (.agg (objC q.2.1 q.2.2.1 q.2.2.2)) ∧ getS (L.map entO) d = some q.2.1 := by
  induction L with
  | nil => left; exact ⟨rfl, rfl⟩
  | cons q L ih =>
    by_cases h : q.1 = d
    · right
      refine ⟨q, by simp, h, ?_, ?_⟩
      · simp [getM, entV, h]
      · simp [getS, entO, h]
    · have e1 : getM ((q :: L).map entV) d = getM (L.map entV) d := by simp [getM, entV, h]
      have e2 : getS ((q :: L).map entO) d = getS (L.map entO) d := by simp [getS, entO, h]
      rw [e1, e2]
      rcases ih with h1 | ⟨q', hq, h1⟩
      · exact .inl h1
      · exact .inr ⟨q', by simp [hq], h1⟩
theorem StrsAt.butMap {w w' : World} {A : Option Addr} {l : List ByteArray} {mb : Nat} {L : List (ByteArray × Value)} (h : StrsAt w A l) (hm : MapIs w mb L) (hb : But w w' mb) : StrsAt w' A l := by
  rcases h with h | ⟨b, off, h, hc⟩
  · exact .inl h
  · refine .inr ⟨b, off, h, fun i s hi => ?_⟩
    have hc' := hc i s hi
    have hlt := World.block_lt_of_cell? w _ hc'
    rw [← hc']
    have hne : b ≠ mb := by
      intro e
      subst e
      obtain ⟨es, clock, hbk, _⟩ := hm
      simp [World.cell?, hbk] at hc'
    simp only [World.cell?, hb.block b hlt (by intro e; injection e with e; exact hne e)]
theorem SetAt.ext {w w' : World} {sb mb : Nat} {S : List (ByteArray × Obj)} (h : SetAt w sb mb S) (hx : Ext w w') : SetAt w' sb mb S := by
  obtain ⟨h1, L, h2, h3, h4⟩ := h
  exact ⟨hx.obj h1, L, h2.ext hx, fun q hq => (h3 q hq).ext hx, h4⟩
theorem SetAt.ne {w : World} {sb mb : Nat} {S : List (ByteArray × Obj)} (h : SetAt w sb mb S) : sb ≠ mb := by
  obtain ⟨h1, L, ⟨es, clock, hb, _⟩, _⟩ := h
  intro e; subst e
  rw [h1] at hb; cases hb
set_option maxRecDepth 100000 in
theorem newSet_any (w : World) : Calls Tryz.prog 30 #[] w fun e w' => e = .returned (.pointer (some ⟨w.heap.size + 1, 0, none⟩)) ∧ SetAt w' (w.heap.size + 1) w.heap.size [] ∧ Ext w w' := by
  have hmm := @run_makeMap Tryz.prog
  go_enter Tryz.func30, Tryz.ntmps30
  go_wp2
  go_ret
  refine ⟨rfl, ⟨?_, [], ?_, by simp, rfl⟩, ((Ext.refl w).alloc _).alloc _⟩
  · have := heap_alloc_new (w.alloc (.map #[] 0)) (.cells #[.map (some w.heap.size)] 96)
    simpa using this
  · exact (MapIs.made w).ext ((Ext.refl _).alloc _)
set_option maxRecDepth 100000 in
set_option maxHeartbeats 1000000 in
theorem get_any (sb mb : Nat) (S : List (ByteArray × Obj)) (d : ByteArray) (w : World) (hS : SetAt w sb mb S) (hz : ∀ p ∈ S, p.2.refs.length ≤ 8000000000000) :
    Calls Tryz.prog 37 #[.pointer (some ⟨sb, 0, none⟩), .string d] w (DecPost w (getS S d) 6) := by
  obtain ⟨h1, L, h2, h3, rfl⟩ := hS
  have hX0 := (Ext.refl w).alloc (.cells objZ 24)
  have hr0 := heap_alloc_new w (.cells objZ 24)
  have hlk := (h2.ext hX0).look Tryz.underlying94 Tryz.underlying9 (z := .agg objZ) (e := 24) (by rfl) d
  have c0 := cell_of (hX0.obj h1) (j := 0) (v := .map (some mb)) rfl
  have hz0 : (w.alloc (.cells objZ 24)).heap.size = w.heap.size + 1 := by simp
  have Z0 := Hd.mk hz0; clear hz0
  have HX0 := Hd.mk hX0; have HR0 := Hd.mk hr0; have H3 := Hd.mk h3; have HZ := Hd.mk hz
  clear hX0 hr0 h1 h2 h3 hz
  rcases getS_ent L d with ⟨e1, e2⟩ | ⟨q, hq, hqd, e1, e2⟩
  · rw [e1] at hlk
    simp only [Option.getD_none, Option.isSome_none] at hlk
    have E2 := Hd.mk e2; clear e1 e2
    go_enter Tryz.func37, Tryz.ntmps37
    go_wp2_with (first
      | (refine boxRow 24 objZ ?_ objZ (n := 22) (i := 6) (k := 15) ?_ ?_ ?_ ?_ ?_ ?_; exact info_obj; rfl; decide; rfl; rfl; exact objZ_one; intro w3 h3 hx3 hz3; have HX3 := Hd.mk hx3; clear h3 hx3 hz3)
      | (refine stRow 24 w.heap.size objZ ?_ ?_ 24 objZ ?_ ?_ ?_ ?_ ?_; rfl; rfl; exact HX3.out.obj HR0.out; exact size_obj; rfl; exact objZ_one))
    refine bodyPost_ret (v := .tuple #[.agg objZ, .int .i64 6]) ?_ (by rfl) ?_
    · exact ret_cell_tmp (p := 4) (u := 5) (ty := 24) rfl _ _ w.heap.size 24 objZ _ _ (by rfl) (by rfl) (row_block (HX3.out.obj HR0.out)) Tryz.underlying24 rfl size_obj
    · rw [E2.out]
      exact ⟨(HX0.out.trans HX3.out).row (Nat.le_refl _) _, rfl⟩
  · obtain ⟨k, o, A, c⟩ := q
    simp only at hqd e1 e2
    rw [e1] at hlk
    simp only [Option.getD_some, Option.isSome_some] at hlk
    have E2 := Hd.mk e2; have HA := Hd.mk ((H3.out _ hq).ext HX0.out); have HL := HZ.out (k, o) (List.mem_map.2 ⟨_, hq, rfl⟩); clear e1 e2 hq hqd
    simp only at HA HL
    go_enter Tryz.func37, Tryz.ntmps37
    go_wp2_with (first
      | (refine boxRow 24 objZ ?_ (objC o A c) (n := 22) (i := 6) (k := 15) ?_ ?_ ?_ ?_ ?_ ?_; exact info_obj; rfl; decide; rfl; rfl; exact objC_one _ _ _; intro w3 h3 hx3 hz3; have h3 := (show w3.heap[(w.alloc (.cells objZ 24)).heap.size]? = _ from h3); rw [Z0.out] at h3; have HO3 := Hd.mk h3; have HX3 := Hd.mk hx3; clear h3 hx3 hz3)
      | (refine ldRow 24 (w.heap.size + 1) ?_ 24 (objC o A c) _ HO3.out Tryz.underlying24 ?_ ?_ ?_; rfl; rfl; exact size_obj))
    refine (copied_any o A c _ HL (HA.out.ext HX3.out)).mono ?_
    intro e w4 hcp
    have HX3' := Hd.mk (HX0.out.trans HX3.out)
    have hs3 := HX3'.out.size
    have hlt3 := (Array.getElem?_eq_some_iff.1 HO3.out).1
    obtain ⟨A', c', hA', hc', hf', rfl, hx4⟩ := hcp
    have HX4 := Hd.mk hx4; have HA' := Hd.mk hA'; have HF := Hd.mk hf'; clear hA' hf' hx4
    go_wp2_with (refine stRow 24 w.heap.size (objC o A' c') ?_ ?_ 24 objZ ?_ ?_ ?_ ?_ ?_; rfl; rfl; exact HX4.out.obj (HX3.out.obj HR0.out); exact size_obj; rfl; exact objC_one _ _ _)
    refine bodyPost_ret (v := .tuple #[.agg (objC o A' c'), .int .i64 0]) ?_ (by rfl) ?_
    · exact ret_cell_tmp (p := 4) (u := 5) (ty := 24) rfl _ _ w.heap.size 24 (objC o A' c') _ _ (by rfl) (by rfl) (row_block (HX4.out.obj (HX3.out.obj HR0.out))) Tryz.underlying24 rfl size_obj
    · rw [E2.out]
      exact ⟨(HX3'.out.trans HX4.out).row (Nat.le_refl _) _, A', c', HA'.out.row' (HF.out.ne (by omega)) _, hc', rfl⟩
set_option maxRecDepth 100000 in
set_option maxHeartbeats 1000000 in
theorem drop_any (sb mb : Nat) (S : List (ByteArray × Obj)) (d : ByteArray) (w : World) (hS : SetAt w sb mb S) :
    Calls Tryz.prog 27 #[.pointer (some ⟨sb, 0, none⟩), .string d] w fun e w' => e = .returned (.bool (getS S d).isSome) ∧ SetAt w' sb mb (S.filter fun p => !decide (p.1 = d)) ∧ But w w' mb := by
  have hne := hS.ne
  obtain ⟨h1, L, h2, h3, rfl⟩ := hS
  have hlk := h2.look Tryz.underlying94 Tryz.underlying9 (z := .agg objZ) (e := 24) (by rfl) d
  have c0 := cell_of h1 (j := 0) (v := .map (some mb)) rfl
  have hcv : (getM (L.map entV) d).isSome = (getS (L.map entO) d).isSome := by
    rcases getS_ent L d with ⟨e1, e2⟩ | ⟨q, hq, hqd, e1, e2⟩ <;> rw [e1, e2] <;> rfl
  rw [hcv] at hlk
  obtain ⟨x, hx⟩ : ∃ x, (getM (L.map entV) d).getD (.agg objZ) = .agg x ∧ x.size = 3 ∧ x.all (·.oneCell') = true := by
    rcases getS_ent L d with ⟨e1, e2⟩ | ⟨q, hq, hqd, e1, e2⟩
    · exact ⟨objZ, by rw [e1]; rfl, rfl, objZ_one⟩
    · exact ⟨objC q.2.1 q.2.2.1 q.2.2.2, by rw [e1]; rfl, rfl, objC_one _ _ _⟩
  rw [hx.1] at hlk
  generalize hb : (getS (L.map entO) d).isSome = b at *
  have H1 := Hd.mk h1; have H2 := Hd.mk h2; have H3 := Hd.mk h3; have HX := Hd.mk hx; clear hb h1 h2 h3 hcv hx
  go_enter Tryz.func27, Tryz.ntmps27
  go_wp2_with (first
    | (refine boxRow 24 objZ ?_ x (n := 22) (i := 5) (k := 14) ?_ ?_ ?_ ?_ ?_ ?_; exact info_obj; rfl; decide; rfl; exact HX.out.2.1.symm; exact HX.out.2.2; intro w3 h3 hx3 hz3; have HX3 := Hd.mk hx3; have c1 := hx3.cell c0; clear h3 hx3 hz3)
    | (refine mapDel (H2.out.ext HX3.out) Tryz.underlying94 Tryz.underlying9 d ?_ ?_ ?_; rfl; rfl; intro w4 hm4 hb4; have HM4 := Hd.mk hm4; have HB4 := Hd.mk hb4; clear hm4 hb4))
  go_ret
  have hb : But w w4 mb := (But.of HX3.out mb).trans HB4.out
  refine ⟨rfl, ⟨hb.other hne H1.out, L.filter (fun q => !decide (q.1 = d)), ?_, ?_, ?_⟩, hb⟩
  · have e : (L.filter fun q => !decide (q.1 = d)).map entV = (L.map entV).filter fun p => !decide (p.1 = d) := by
      rw [List.filter_map]; rfl
    rw [e]; exact HM4.out
  · intro q hq
    exact (H3.out q ((List.mem_filter.1 hq).1)).butMap H2.out hb
  · rw [List.filter_map]; rfl
end Go.Proofs.YtfofapggmoibkaaGreatDoor
namespace Go.Proofs.YtfofapggmoibkaaGreatDoor
open Go Go.RowKit

theorem butM_cell {w w' : World} {mb : Nat} {L : List (ByteArray × Value)} (hm : MapIs w mb L) (hb : But w w' mb) {a : Addr} {v : Value} (h : w.cell? a = some v) : w'.cell? a = some v := by
  have hlt := World.block_lt_of_cell? w _ h
  have hne : a.block ≠ mb := by
    intro e
    obtain ⟨es, clock, hbk, _⟩ := hm
    rw [← e] at hbk
    simp [World.cell?, hbk] at h
  exact (World.cell?_of_block (w := w) (hb.block a.block hlt (by intro e; injection e with e; exact hne e))).trans h
def putS (S : List (ByteArray × Obj)) (o : Obj) : List (ByteArray × Obj) :=
  if validB o = true ∧ getS S (digO o) = none then S ++ [(digO o, o)] else S
theorem digest_is (o : Obj) (v : Value) (H : Hd (digR o = v)) (A : Option Addr) (c : Nat) (w : World) (hl : o.refs.length ≤ 9223372036854775807) (hd : o.data.size ≤ 9223372036854775807) (hA : StrsAt w A o.refs) :
    Calls Tryz.prog 13 #[.agg #[.int .i64 o.kind, .slice A o.refs.length c, .string o.data]] w fun e w' => e = .returned v ∧ Ext w w' := by
  rw [← H.out]; exact digest_any o A c w hl hd hA
set_option maxRecDepth 100000 in
set_option maxHeartbeats 2000000 in
theorem put_any (sb mb : Nat) (S : List (ByteArray × Obj)) (o : Obj) (A : Option Addr) (c : Nat) (w : World) (hS : SetAt w sb mb S) (hl : o.refs.length ≤ 9223372036854775807) (hd : o.data.size ≤ 9223372036854775807) (hA : StrsAt w A o.refs) :
    Calls Tryz.prog 31 #[.pointer (some ⟨sb, 0, none⟩), .agg (objC o A c)] w fun e w' => e = .returned (digR o) ∧ SetAt w' sb mb (putS S o) ∧ But w w' mb := by
  have hX0 := (Ext.refl w).alloc (.cells (objC o A c) 24)
  have hr0 := heap_alloc_new w (.cells (objC o A c) 24)
  have HX0 := Hd.mk hX0; have HR0 := Hd.mk hr0; have HS := Hd.mk hS; have HA := Hd.mk hA
  clear hX0 hr0 hS hA
  generalize hg : digR o = g
  have hz0 : (w.alloc (.cells (objC o A c) 24)).heap.size = w.heap.size + 1 := by simp
  have HZ0 := Hd.mk hz0; clear hz0
  have hlook : ∀ w2 d, Ext w w2 → ∃ b x, (Instr.lookup 94 (.map (some mb)) (.string d) true).run Tryz.prog w2 = .ok (.tuple #[.agg x, .bool b]) w2 ∧ w2.cell? ⟨sb, 0, none⟩ = some (.map (some mb)) ∧ Hd (b = (getS S d).isSome ∧ x.size = 3 ∧ x.all (·.oneCell') = true) := by
    intro w2 d hx
    obtain ⟨h1, L, h2, h3, rfl⟩ := HS.out.ext hx
    have hlk := h2.look Tryz.underlying94 Tryz.underlying9 (z := .agg objZ) (e := 24) (by rfl) d
    have hc := cell_of h1 (j := 0) (v := .map (some mb)) rfl
    rcases getS_ent L d with ⟨e1, e2⟩ | ⟨q, hq, hqd, e1, e2⟩
    · rw [e1] at hlk; exact ⟨_, _, hlk, hc, ⟨by rw [e2]; rfl, rfl, objZ_one⟩⟩
    · rw [e1] at hlk; exact ⟨_, _, hlk, hc, ⟨by rw [e2]; rfl, rfl, objC_one _ _ _⟩⟩
  have HLK := Hd.mk hlook; clear hlook
  cases hv : validB o with
  | false =>
    have hg2 : g = .tuple #[.string ⟨#[]⟩, .int .i64 1] := by rw [← hg, digR, hv]; rfl
    subst hg2
    have HG := Hd.mk hg; have HV := Hd.mk hv; clear hg hv
    go_enter Tryz.func31, Tryz.ntmps31
    go_wp2_with fail
    refine (digest_is o _ HG A c _ hl hd (HA.out.ext HX0.out)).mono ?_; rintro e w1 ⟨rfl, hx1⟩
    have HX1 := Hd.mk (HX0.out.trans hx1); clear hx1
    obtain ⟨b, x, hlk, hc, hbx⟩ := HLK.out w1 ⟨#[]⟩ HX1.out
    go_wp2_with (refine boxRow 24 objZ ?_ x (n := 39) (i := 8) (k := 22) ?_ ?_ ?_ ?_ ?_ ?_; exact info_obj; rfl; decide; rfl; exact hbx.out.2.1.symm; exact hbx.out.2.2; intro w3 h3 hx3 hz3; have HX3 := Hd.mk hx3; clear h3 hx3 hz3)
    go_ret2
    have hx := HX1.out.trans HX3.out
    refine ⟨rfl, ?_, But.of hx mb⟩
    rw [putS, if_neg (by rw [HV.out]; simp)]
    exact HS.out.ext hx
  | true =>
    have ho := validB_ok hv
    have hg2 : g = .tuple #[.string (digO o), .int .i64 0] := by rw [← hg, digR, hv]; rfl
    subst hg2
    have HG := Hd.mk hg; have HV := Hd.mk hv; clear hg hv
    have hn64 := ho.n
    clear ho
    cases hq : (getS S (digO o)).isSome with
    | true =>
      have HQ := Hd.mk hq; clear hq
      go_enter Tryz.func31, Tryz.ntmps31
      go_wp2_with fail
      refine (digest_is o _ HG A c _ hl hd (HA.out.ext HX0.out)).mono ?_; rintro e w1 ⟨rfl, hx1⟩
      have HX1 := Hd.mk (HX0.out.trans hx1); clear hx1
      obtain ⟨b, x, hlk, hc, hbx⟩ := HLK.out w1 (digO o) HX1.out
      obtain rfl : b = true := hbx.out.1.trans HQ.out
      go_wp2_with (refine boxRow 24 objZ ?_ x (n := 39) (i := 8) (k := 22) ?_ ?_ ?_ ?_ ?_ ?_; exact info_obj; rfl; decide; rfl; exact hbx.out.2.1.symm; exact hbx.out.2.2; intro w3 h3 hx3 hz3; have HX3 := Hd.mk hx3; clear h3 hx3 hz3)
      go_ret2
      have hx := HX1.out.trans HX3.out
      refine ⟨rfl, ?_, But.of hx mb⟩
      rw [putS, if_neg (by intro h; have := HQ.out; rw [h.2] at this; cases this)]
      exact HS.out.ext hx
    | false =>
      have HQ := Hd.mk hq; clear hq
      go_enter Tryz.func31, Tryz.ntmps31
      go_wp2_with fail
      refine (digest_is o _ HG A c _ hl hd (HA.out.ext HX0.out)).mono ?_; rintro e w1 ⟨rfl, hx1⟩
      have HR1 := Hd.mk (hx1.obj HR0.out)
      have HX1 := Hd.mk (HX0.out.trans hx1); clear hx1
      obtain ⟨b, x, hlk, hc, hbx⟩ := HLK.out w1 (digO o) HX1.out
      obtain rfl : b = false := hbx.out.1.trans HQ.out
      go_wp2_with (refine boxRow 24 objZ ?_ x (n := 39) (i := 8) (k := 22) ?_ ?_ ?_ ?_ ?_ ?_; exact info_obj; rfl; decide; rfl; exact hbx.out.2.1.symm; exact hbx.out.2.2; intro w3 h3 hx3 hz3; have HX3 := Hd.mk hx3; clear h3 hx3 hz3)
      have hN : ∀ w2, Ext w3 w2 → w2.cell? ⟨sb, 0, none⟩ = some (.map (some mb)) ∧ w2.cell? ⟨w.heap.size, 0, none⟩ = some (.int .i64 o.kind) ∧ w2.cell? ⟨w.heap.size, 1, none⟩ = some (.slice A o.refs.length c) ∧ w2.cell? ⟨w.heap.size, 2, none⟩ = some (.string o.data) := fun w2 hx =>
        ⟨hx.cell (HX3.out.cell hc), cell_of (hx.obj (HX3.out.obj HR1.out)) rfl, cell_of (hx.obj (HX3.out.obj HR1.out)) rfl, cell_of (hx.obj (HX3.out.obj HR1.out)) rfl⟩
      have HN := Hd.mk hN; clear hN hc hlk
      generalize hd0 : digO o = d0 at *
      have HD0 := Hd.mk hd0; clear hd0
      refine wp_region_pi (fun w' => w'.cell? ⟨sb, 0, none⟩ = some (.map (some mb)) ∧ w'.cell? ⟨w.heap.size, 0, none⟩ = some (.int .i64 o.kind) ∧ w'.cell? ⟨w.heap.size, 1, none⟩ = some (.slice A o.refs.length c) ∧ w'.cell? ⟨w.heap.size, 2, none⟩ = some (.string o.data)) [(true, 0), (true, 1), (true, 2), (true, 3), (true, 4), (true, 5), (false, 6), (false, 7)] (by kernel_rfl) (by kernel_rfl) (by intro c a d v w h; cases d <;> exact h) ?_
      iterate 6 (refine pi_still rfl (HN.out _ ((Ext.refl w3).drew)) rfl (fun w' hS => by obtain ⟨s0, s1, s2, s3⟩ := hS; go_simp; rfl) ?_; intro K hK; go_simp; refine hK _ _ ?_; clear hK K)
      refine pi_act rfl rfl ?_; intro K hK; go_simp; refine (copied_any o A c _ (by omega) (HA.out.ext ((HX1.out.trans HX3.out).trans (Ext.refl w3).drew))).mono ?_; intro e w4 hcp
      obtain ⟨A', c', hA', hc', hf', rfl, hx4⟩ := hcp
      have HX4 := Hd.mk ((Ext.refl w3).drew.trans hx4); have HA' := Hd.mk hA'; clear hA' hf' hx4
      refine hK _ _ (HN.out _ HX4.out) ?_; clear hK K
      have hx := (HX1.out.trans HX3.out).trans HX4.out
      have HXX := Hd.mk hx
      have hS4 := HS.out.ext hx
      have hne := hS4.ne
      obtain ⟨h1, L, h2, h3, rfl⟩ := hS4
      have hgm : getM (L.map entV) d0 = none := by
        rcases getS_ent L d0 with ⟨e1, e2⟩ | ⟨q, hq, hqd, e1, e2⟩
        · exact e1
        · have := HQ.out; rw [e2] at this; cases this
      refine pi_act rfl rfl ?_; intro K hK
      refine wpMapPut rfl h2 Tryz.underlying94 Tryz.underlying9 d0 (.agg (objC o A' c')) hgm ?_ ?_ ?_ ?_
      · rfl
      · rfl
      · rfl
      intro w5 hm5 hb5
      go_simp
      have hA5 := HA'.out.butMap h2 hb5
      have h35 : ∀ q ∈ L, StrsAt w5 q.2.2.1 q.2.1.refs := fun q hq => (h3 q hq).butMap h2 hb5
      have h15 := hb5.other hne h1
      obtain ⟨s0, s1, s2, s3⟩ := HN.out _ HX4.out
      refine hK _ _ ⟨butM_cell h2 hb5 s0, butM_cell h2 hb5 s1, butM_cell h2 hb5 s2, butM_cell h2 hb5 s3⟩ ?_; clear hK K
      refine pi_nil ?_
      have HM5 := Hd.mk hm5; have HB5 := Hd.mk hb5; have HA5 := Hd.mk hA5; have H35 := Hd.mk h35; have H15 := Hd.mk h15; have HGM := Hd.mk hgm
      clear hm5 hb5 hA5 h35 h15 h1 h2 h3 s0 s1 s2 s3 hgm
      go_wp2
      go_ret2
      have hno : getS (L.map entO) d0 = none := by
        have := HQ.out
        cases hh : getS (L.map entO) d0 with
        | none => rfl
        | some y => rw [hh] at this; cases this
      refine ⟨by rw [HD0.out]; rfl, ⟨H15.out, L ++ [(d0, o, A', c')], ?_, ?_, ?_⟩, (But.of HXX.out mb).trans HB5.out⟩
      · rw [List.map_append]; exact HM5.out
      · intro q hq
        rcases List.mem_append.1 hq with hq | hq
        · exact H35.out q hq
        · rw [List.mem_singleton] at hq; subst hq; exact HA5.out
      · rw [putS, HD0.out, if_pos ⟨HV.out, hno⟩, List.map_append]; rfl
end Go.Proofs.YtfofapggmoibkaaGreatDoor
namespace Go.Proofs.YtfofapggmoibkaaGreatDoor
open Go Go.RowKit

theorem own_pop {w : World} {B : Nat} {e : TypeId} {g n cap : Nat} {xs : List Value} {x : Value} (h : w.ownsRow B e 1 (.slice (some ⟨g, 0, none⟩) (n + 1) cap) (n + 1) (xs ++ [x])) : w.ownsRow B e 1 (.slice (some ⟨g, 0, none⟩) n cap) n xs := by
  have hl := h.1
  rw [List.length_append, List.length_singleton] at hl
  refine ⟨by omega, ?_⟩
  rcases h.2 with ⟨hv, _⟩ | ⟨g', cap', cur, hv, hb, hg, hnc, hcm, hcs, htake⟩
  · cases hv
  · simp only [Value.slice.injEq, Option.some.injEq, Addr.mk.injEq] at hv
    obtain ⟨⟨rfl, _⟩, _, rfl⟩ := hv
    refine .inr ⟨g, cap, cur, rfl, hb, hg, by omega, hcm, hcs, ?_⟩
    have e1 : cur.toList.take (n * 1) = (cur.toList.take ((n + 1) * 1)).take (n * 1) := by
      rw [List.take_take, Nat.min_eq_left (by omega)]
    rw [e1, htake, show n * 1 = xs.length by omega, List.take_left]
section
variable {P : Program} {ops : Array Oper} {rest : List Oper} {a : Act} {Q : Exit → Act → World → Prop} {dst : Option Tmp} {ty : TypeId} {pos : String} {aft : _}
/-- append(v, x...), x a slice of strings -/
theorem appS {w : World} (base : Nat) (s x : Operand) (t e : TypeId) (z : Value)
    (ht : P.underlying t = some (.slice e)) (hinfo : (P.info? e).map (fun i => (i.zero, i.size, i.bytes)) = some (some z, 1, 16)) (hz : z.cells.size = 1)
    {v : Value} {n : Nat} {xs : List Value} (HO : w.ownsRow base e 1 v n xs) {A : Option Addr} {c : Nat} {l : List ByteArray} (hA : StrsAt w A l) (hs : a.eval s = v) (hx : a.eval x = .slice A l.length c) (hbase : base ≤ w.heap.size) (hl : n + l.length ≤ 1000000)
    (h : ∀ v1 w1, w1.ownsRow base e 1 v1 (n + l.length) (xs ++ strs l) → w.grownBy w1 v.ownBlock → (v1.ownBlock = v.ownBlock ∨ ∃ b, v1.ownBlock = some b ∧ w.heap.size ≤ b) → wpList P ops Q rest (a.put dst v1) w1) :
    wpList P ops Q (⟨dst, .call { callee := .builtin .append, args := #[s, x], argTypes := #[t, t] }, ty, pos, aft, none⟩ :: rest) a w := by
  obtain ⟨i0, hi, hzz⟩ := Option.map_eq_some_iff.1 hinfo
  simp only [Prod.mk.injEq] at hzz
  obtain ⟨hz0, hz1, hz2⟩ := hzz
  refine wpList_plain rfl fun K hK => ?_
  rcases hA with ⟨rfl, rfl⟩ | ⟨b, off, rfl, hc⟩
  · have hrun : (Builtin.append_ #[t, t] ty #[v, .slice none 0 c]).run P w = .ok v w := by
      rcases HO.2 with ⟨rfl, rfl⟩ | ⟨g, cap, cur, rfl, _, _, hnc, _⟩
      · simp [Builtin.append_, run_underlying ht, sizeOf, typeInfo, hi, Builtin.lenOf, Builtin.firstCells]
      · simp [Builtin.append_, run_underlying ht, sizeOf, typeInfo, hi, Builtin.lenOf, Builtin.firstCells, hnc, storeCells]
    have h1 := h v w (by simpa [strs] using HO) (World.grownBy.refl w _) (.inl rfl)
    unfold Oper.wp execOp
    simp only [List.length_nil] at hx
    simp only [resolve, invoke, builtin, Sem.run_bind, Sem.run_pure, Result.andThen_ok, List.map_toArray, List.map_cons, List.map_nil, hs, hx, hrun]
    exact hK _ _ h1
  · obtain ⟨v', w', hr, h2, h3, _, h5⟩ := run_append_own_at (P := P) w base t ty e i0 z 1 16 ht hi hz0 hz1 hz2 hz (by omega) v n xs HO ⟨b, off, none⟩ l.length c (strs l) (by rw [strs_length, Nat.mul_one])
      (fun j u hu => by
        have hadd : (⟨b, off, none⟩ : Addr).add j = ⟨b, off + j, none⟩ := by unfold Addr.add; split <;> simp_all
        rw [hadd]
        simp only [strs, List.getElem?_map, Option.map_eq_some_iff] at hu
        obtain ⟨y, hy, rfl⟩ := hu
        exact hc j y hy) (by intro u hu; simp only [strs, List.mem_map] at hu; obtain ⟨y, _, rfl⟩ := hu; rfl) (by simp only [maxLen]; omega) (by omega) hbase
    unfold Oper.wp execOp
    simp only [resolve, invoke, builtin, Sem.run_bind, Sem.run_pure, Result.andThen_ok, List.map_toArray, List.map_cons, List.map_nil, hs, hx, hr]
    refine hK _ _ (h v' w' h2 h3 ?_)
    rcases h5 with h5 | h5
    · exact .inl h5
    · exact .inr ⟨_, h5, Nat.le_refl _⟩
end
/-- a list of strings, sorted -/
def sortB (l : List ByteArray) : List ByteArray := ((l.map fun x => x.data.toList).mergeSort fun x y => decide (x ≤ y)).map fun x => ⟨x.toArray⟩
theorem sortB_perm (l : List ByteArray) : (sortB l).Perm l := by
  have h1 := (List.mergeSort_perm (l.map fun x => x.data.toList) fun x y => decide (x ≤ y)).map (fun x => (⟨x.toArray⟩ : ByteArray))
  refine h1.trans ?_
  rw [List.map_map]
  have e : ((fun x : List UInt8 => (⟨x.toArray⟩ : ByteArray)) ∘ fun x : ByteArray => x.data.toList) = id := by funext x; rfl
  rw [e, List.map_id]
theorem sortB_length (l : List ByteArray) : (sortB l).length = l.length := (sortB_perm l).length_eq
set_option maxHeartbeats 400000 in
theorem sortS_any (l : List ByteArray) (v : Value) (B : Nat) (w : World) (hl : l.length ≤ 1000000) (h : w.ownsRow B 9 1 v l.length (strs l)) :
    Calls Tryz.prog 65 #[v] w fun e w' => e = .returned (.tuple #[]) ∧ SlS w' v (sortB l) ∧ w.grownBy w' v.ownBlock := by
  rcases h.2 with ⟨rfl, h0⟩ | ⟨g, cap, cur, rfl, hb, hg, hnc, hcm, hcs, htake⟩
  · obtain rfl : l = [] := List.eq_nil_of_length_eq_zero h0
    refine (Tryz.slices_Sort_string_none none 0 w).mono ?_
    rintro e w' ⟨rfl, rfl⟩
    exact ⟨rfl, by rw [show sortB [] = [] by simp [sortB]]; exact SlS.nil _, World.grownBy.refl _ _⟩
  · have hH : Go.Sort.Holds Go.Proofs.encStr w g 0 (l.map fun x => x.data.toList).toArray := by
      intro j hj
      have hj' : j < l.length := by simpa using hj
      refine ⟨?_, ?_⟩
      · have hc := own_cell h (j := j) (u := .string l[j]) (by simp [strs, List.getElem?_eq_getElem hj'])
        rw [Nat.zero_add, hc, getElem!_pos ((l.map fun x => x.data.toList).toArray) j hj]
        simp [Go.Proofs.encStr]
      · rw [Nat.zero_add]; exact free_of hg j
    have hlen : (l.map fun x => x.data.toList).length = l.length := by simp
    have hs := Tryz.slices_Sort_string g 0 cap (l.map fun x => x.data.toList) w hH (Array.getElem?_eq_some_iff.1 hg).1 (by rw [hlen]; omega)
    rw [hlen] at hs
    refine hs.mono ?_
    rintro e w' ⟨rfl, n, os, rfl⟩
    refine ⟨rfl, ⟨some ⟨g, 0, none⟩, cap, by rw [sortB_length], by rw [sortB_length]; exact hnc, .inr ⟨g, 0, rfl, fun i s hi => ?_⟩⟩, ?_⟩
    · have hi' : i < (sortB l).length := (List.getElem?_eq_some_iff.1 hi).1
      have hsz : ((l.map fun x => x.data.toList).mergeSort fun x y => decide (x ≤ y)).length = l.length := by rw [List.length_mergeSort, hlen]
      rw [sortB_length] at hi'
      have hlt : g < (Go.Sort.putRow Go.Proofs.encStr (Go.Sort.ahead w n) g 0 ((l.map fun x => x.data.toList).mergeSort fun x y => decide (x ≤ y)).toArray).heap.size := by
        rw [Go.Sort.size_putRow]; exact (Array.getElem?_eq_some_iff.1 hg).1
      rw [Go.Sort.cell?_grow _ _ _ hlt, Go.Sort.cell?_putRow _ _ _ _ _ _ (show Go.Sort.Holds Go.Proofs.encStr (Go.Sort.ahead w n) g 0 (l.map fun x => x.data.toList).toArray from hH) (by simp) i (by simpa [hsz] using hi')]
      rw [getElem!_pos (((l.map fun x => x.data.toList).mergeSort fun x y => decide (x ≤ y)).toArray) i (by simpa [hsz] using hi')]
      rw [sortB, List.getElem?_map, Option.map_eq_some_iff] at hi
      obtain ⟨y, hy, rfl⟩ := hi
      have := (List.getElem?_eq_some_iff.1 hy).2
      simp [Go.Proofs.encStr, this]
    · refine ⟨rfl, rfl, rfl, by simp, fun k hk hne => ?_⟩
      rw [Go.Sort.heap_grow_old _ _ (by rw [Go.Sort.size_putRow]; exact hk)]
      have hkg : k ≠ g := by intro e; subst e; exact hne rfl
      simp only [Go.Sort.putRow, Go.Sort.mapBlock, Array.getElem?_modify]
      rw [if_neg (fun e => hkg e.symm)]
      rfl
end Go.Proofs.YtfofapggmoibkaaGreatDoor
namespace Go.Proofs.YtfofapggmoibkaaGreatDoor
open Go Go.RowKit

inductive Reach (S : List (ByteArray × Obj)) (roots : List ByteArray) : ByteArray → Prop where
  | root {x : ByteArray} : x ∈ roots → Reach S roots x
  | ref {x y : ByteArray} {o : Obj} : Reach S roots x → getS S x = some o → y ∈ o.refs → Reach S roots y
/-- what the closure is: found and missing -/
structure CloSpec (S : List (ByteArray × Obj)) (roots fi fo : List ByteArray) : Prop where
  ni : fi.Nodup
  no : fo.Nodup
  mi : ∀ x, x ∈ fi ↔ Reach S roots x ∧ (getS S x).isSome = true
  mo : ∀ x, x ∈ fo ↔ Reach S roots x ∧ getS S x = none
structure CloInv (S : List (ByteArray × Obj)) (roots seen work found missing : List ByteArray) : Prop where
  mem : ∀ x, x ∈ seen ↔ x ∈ found ∨ x ∈ missing
  fnd : found.Nodup
  mnd : missing.Nodup
  inS : ∀ x ∈ found, (getS S x).isSome = true
  outS : ∀ x ∈ missing, getS S x = none
  reach : ∀ x, x ∈ seen ∨ x ∈ work → Reach S roots x
  rts : ∀ x ∈ roots, x ∈ seen ∨ x ∈ work
  refs : ∀ x ∈ found, ∀ o, getS S x = some o → ∀ y ∈ o.refs, y ∈ seen ∨ y ∈ work
  cnt : work.length + found.length + missing.length ≤ roots.length + 65 * found.length
theorem CloInv.start (S : List (ByteArray × Obj)) (roots : List ByteArray) : CloInv S roots [] roots [] [] :=
  ⟨by simp, by simp, by simp, by simp, by simp, fun x h => .root (h.resolve_left (by simp)), fun x h => .inr h, by simp, by simp⟩
theorem mem_snoc {x y : ByteArray} {l : List ByteArray} : y ∈ l ++ [x] ↔ y ∈ l ∨ y = x := by simp
theorem CloInv.dup {S : List (ByteArray × Obj)} {roots seen work found missing : List ByteArray} {x : ByteArray} (h : CloInv S roots seen (work ++ [x]) found missing) (hx : x ∈ seen) : CloInv S roots seen work found missing := by
  have key : ∀ y, y ∈ seen ∨ y ∈ work ++ [x] → y ∈ seen ∨ y ∈ work := by
    intro y hy
    rw [mem_snoc] at hy
    rcases hy with hy | hy | rfl
    · exact .inl hy
    · exact .inr hy
    · exact .inl hx
  exact ⟨h.mem, h.fnd, h.mnd, h.inS, h.outS, fun y hy => h.reach y (by rw [mem_snoc]; rcases hy with hy | hy <;> simp [hy]), fun y hy => key y (h.rts y hy), fun y hy o ho z hz => key z (h.refs y hy o ho z hz), by have := h.cnt; rw [List.length_append, List.length_singleton] at this; omega⟩
theorem CloInv.miss {S : List (ByteArray × Obj)} {roots seen work found missing : List ByteArray} {x : ByteArray} (h : CloInv S roots seen (work ++ [x]) found missing) (hx : x ∉ seen) (hg : getS S x = none) : CloInv S roots (seen ++ [x]) work found (missing ++ [x]) := by
  have key : ∀ y, y ∈ seen ∨ y ∈ work ++ [x] → y ∈ seen ++ [x] ∨ y ∈ work := by
    intro y hy
    rw [mem_snoc] at hy ⊢
    rcases hy with hy | hy | rfl <;> simp [*]
  refine ⟨fun y => ?_, h.fnd, ?_, h.inS, ?_, fun y hy => ?_, fun y hy => key y (h.rts y hy), fun y hy o ho z hz => key z (h.refs y hy o ho z hz), ?_⟩
  · rw [mem_snoc, mem_snoc, h.mem y, or_assoc]
  · rw [List.nodup_append]
    refine ⟨h.mnd, by simp, fun a ha b hb => ?_⟩
    rw [List.mem_singleton] at hb
    subst hb
    intro e; subst e
    exact hx ((h.mem _).2 (.inr ha))
  · intro y hy
    rw [mem_snoc] at hy
    rcases hy with hy | rfl
    · exact h.outS y hy
    · exact hg
  · refine h.reach y ?_
    rw [mem_snoc] at hy ⊢
    rcases hy with (hy | rfl) | hy <;> simp [*]
  · have := h.cnt
    simp only [List.length_append, List.length_singleton] at this ⊢
    omega
theorem CloInv.hit {S : List (ByteArray × Obj)} {roots seen work found missing : List ByteArray} {x : ByteArray} {o : Obj} (h : CloInv S roots seen (work ++ [x]) found missing) (hx : x ∉ seen) (hg : getS S x = some o) (hn : o.refs.length ≤ 64) : CloInv S roots (seen ++ [x]) (work ++ o.refs) (found ++ [x]) missing := by
  have key : ∀ y, y ∈ seen ∨ y ∈ work ++ [x] → y ∈ seen ++ [x] ∨ y ∈ work ++ o.refs := by
    intro y hy
    rw [mem_snoc] at hy
    rw [mem_snoc, List.mem_append]
    rcases hy with hy | hy | rfl <;> simp [*]
  have hrx : Reach S roots x := h.reach x (.inr (by simp))
  refine ⟨fun y => ?_, ?_, h.mnd, ?_, h.outS, fun y hy => ?_, fun y hy => key y (h.rts y hy), fun y hy o' ho z hz => ?_, ?_⟩
  · rw [mem_snoc, mem_snoc, h.mem y]
    constructor
    · rintro ((h1 | h1) | h1) <;> simp [h1]
    · rintro ((h1 | h1) | h1) <;> simp [h1]
  · rw [List.nodup_append]
    refine ⟨h.fnd, by simp, fun a ha b hb => ?_⟩
    rw [List.mem_singleton] at hb
    subst hb
    intro e; subst e
    exact hx ((h.mem _).2 (.inl ha))
  · intro y hy
    rw [mem_snoc] at hy
    rcases hy with hy | rfl
    · exact h.inS y hy
    · rw [hg]; rfl
  · rw [mem_snoc, List.mem_append] at hy
    rcases hy with (hy | rfl) | hy | hy
    · exact h.reach y (.inl hy)
    · exact hrx
    · exact h.reach y (.inr (by simp [hy]))
    · exact .ref hrx hg hy
  · rw [mem_snoc] at hy
    rcases hy with hy | rfl
    · exact key z (h.refs y hy o' ho z hz)
    · rw [hg] at ho
      injection ho with ho
      subst ho
      exact .inr (by simp [hz])
  · have := h.cnt
    simp only [List.length_append, List.length_singleton] at this ⊢
    omega
theorem CloInv.done {S : List (ByteArray × Obj)} {roots seen found missing : List ByteArray} (h : CloInv S roots seen [] found missing) : CloSpec S roots found missing := by
  have hr : ∀ x, x ∈ seen ↔ Reach S roots x := by
    intro x
    constructor
    · intro hx; exact h.reach x (.inl hx)
    · intro hx
      induction hx with
      | root hx => exact (h.rts _ hx).resolve_right (by simp)
      | ref hx hg hy ih =>
        rcases (h.mem _).1 ih with h1 | h1
        · rcases h.refs _ h1 _ hg _ hy with h2 | h2
          · exact h2
          · simp at h2
        · rw [h.outS _ h1] at hg; cases hg
  refine ⟨h.fnd, h.mnd, fun x => ⟨fun hx => ⟨(hr x).1 ((h.mem x).2 (.inl hx)), h.inS x hx⟩, fun hx => ?_⟩, fun x => ⟨fun hx => ⟨(hr x).1 ((h.mem x).2 (.inr hx)), h.outS x hx⟩, fun hx => ?_⟩⟩
  · rcases (h.mem x).1 ((hr x).2 hx.1) with h1 | h1
    · exact h1
    · have := hx.2; rw [h.outS x h1] at this; cases this
  · rcases (h.mem x).1 ((hr x).2 hx.1) with h1 | h1
    · have := h.inS x h1; rw [hx.2] at this; cases this
    · exact h1
theorem CloSpec.sorted {S : List (ByteArray × Obj)} {roots fi fo : List ByteArray} (h : CloSpec S roots fi fo) : CloSpec S roots (sortB fi) (sortB fo) :=
  ⟨(sortB_perm fi).nodup_iff.2 h.ni, (sortB_perm fo).nodup_iff.2 h.no, fun x => by rw [(sortB_perm fi).mem_iff]; exact h.mi x, fun x => by rw [(sortB_perm fo).mem_iff]; exact h.mo x⟩
theorem nodup_sub {α : Type} : ∀ (l1 l2 : List α), l1.Nodup → (∀ x ∈ l1, x ∈ l2) → l1.length ≤ l2.length
  | [], _, _, _ => by simp
  | x :: l1, l2, hn, hs => by
    rw [List.nodup_cons] at hn
    obtain ⟨a, b, rfl⟩ := List.append_of_mem (hs x (by simp))
    have h := nodup_sub l1 (a ++ b) hn.2 (fun y hy => by
      have := hs y (by simp [hy])
      rw [List.mem_append, List.mem_cons] at this
      rw [List.mem_append]
      rcases this with h1 | rfl | h1
      · exact .inl h1
      · exact absurd hy hn.1
      · exact .inr h1)
    simp only [List.length_append, List.length_cons] at h ⊢
    omega
theorem keys_found {S : List (ByteArray × Obj)} {found : List ByteArray} (hn : found.Nodup) (hin : ∀ x ∈ found, (getS S x).isSome = true) : found.length ≤ S.length := by
  have hsub : found ⊆ S.map (·.1) := by
    intro x hx
    have := hin x hx
    rw [Option.isSome_iff_exists] at this
    obtain ⟨o, ho⟩ := this
    unfold getS at ho
    simp only [Option.map_eq_some_iff] at ho
    obtain ⟨p, hp, _⟩ := ho
    have h1 := List.find?_some hp
    have h2 := List.mem_of_find?_eq_some hp
    simp only [decide_eq_true_eq] at h1
    exact List.mem_map.2 ⟨p, h2, h1⟩
  have h1 := nodup_sub found (S.map (·.1)) hn (fun x hx => hsub hx)
  rwa [List.length_map] at h1
end Go.Proofs.YtfofapggmoibkaaGreatDoor
namespace Go.Proofs.YtfofapggmoibkaaGreatDoor
open Go Go.RowKit

theorem sort_perm {a b : List (List UInt8)} (h : a.Perm b) : (a.mergeSort fun x y => decide (x ≤ y)) = b.mergeSort fun x y => decide (x ≤ y) := by
  have ht : ∀ (a b c : List UInt8), decide (a ≤ b) = true → decide (b ≤ c) = true → decide (a ≤ c) = true := by
    intro a b c h1 h2
    simp only [decide_eq_true_eq] at *
    exact List.le_trans h1 h2
  have ho : ∀ (a b : List UInt8), (decide (a ≤ b) || decide (b ≤ a)) = true := by
    intro a b
    simp only [Bool.or_eq_true, decide_eq_true_eq]
    exact List.le_total a b
  refine List.Perm.eq_of_pairwise (le := fun x y : List UInt8 => decide (x ≤ y) = true) ?_ (List.pairwise_mergeSort ht ho a) (List.pairwise_mergeSort ht ho b) (((List.mergeSort_perm a _).trans h).trans (List.mergeSort_perm b _).symm)
  intro x y _ _ h1 h2
  simp only [decide_eq_true_eq] at h1 h2
  exact List.le_antisymm h1 h2
theorem sortB_sorted (l : List ByteArray) : (sortB l).Pairwise (fun a b => a.data.toList ≤ b.data.toList) := by
  have ht : ∀ (a b c : List UInt8), decide (a ≤ b) = true → decide (b ≤ c) = true → decide (a ≤ c) = true := by
    intro a b c h1 h2
    simp only [decide_eq_true_eq] at *
    exact List.le_trans h1 h2
  have ho : ∀ (a b : List UInt8), (decide (a ≤ b) || decide (b ≤ a)) = true := by
    intro a b
    simp only [Bool.or_eq_true, decide_eq_true_eq]
    exact List.le_total a b
  rw [sortB, List.pairwise_map]
  exact (List.pairwise_mergeSort ht ho _).imp (fun h => by simpa using h)
theorem sortB_perm_eq {a b : List ByteArray} (h : a.Perm b) : sortB a = sortB b := by
  rw [sortB, sortB, sort_perm (h.map _)]
/-- the keys' map as the shelf wants it -/
theorem MapIs.owns {w : World} {mb : Nat} {L : List (ByteArray × Value)} (h : MapIs w mb L) (hs : ∀ p ∈ L, p.1.size ≤ maxLen) (hl : L.length ≤ maxLen) :
    ∃ D0 : DataW Unit, w.ownsMap Tryz.prog 9 (fun _ => some (.lit (.bool true), [])) mb L.length D0 ∧ Maps.size D0 = L.length ∧ (Go.strKeys D0).Perm (L.map fun p => p.1.data.toList) := by
  obtain ⟨es, clock, hb, hst, hL⟩ := h
  have hlen : es.size = L.length := by
    have := congrArg List.length hL
    simpa using this
  have hkey : ∀ x ∈ es.toList, ∃ p ∈ L, x.key = .string p.1 := by
    intro x hx
    have : (x.key, x.val) ∈ es.toList.map (fun e => (e.key, e.val)) := List.mem_map.2 ⟨x, hx, rfl⟩
    rw [hL] at this
    obtain ⟨p, hp, he⟩ := List.mem_map.1 this
    injection he with h1 h2
    exact ⟨p, hp, h1.symm⟩
  have hrd : ∀ x ∈ es.toList, ∀ p ∈ L, x.key = .string p.1 → WideElems.rd (H := Unit) Tryz.prog 9 (fun _ => some (.lit (.bool true), [])) x = some (.string p.1.data.toList, .lit (.bool true)) := by
    intro x hx p hp he
    simp [WideElems.rd, he, WideMaps.keyOf_string_mk Tryz.underlying9 (hs p hp)]
  refine ⟨_, ⟨es, clock, hb, ⟨by omega, hst, fun x hx => ?_⟩, by omega, rfl⟩, ?_, ?_⟩
  · obtain ⟨p, hp, he⟩ := hkey x hx
    exact ⟨_, hrd x hx p hp he⟩
  · show (List.foldr DataW.insert [] _).length = _
    rw [(WideShapes.sorted_perm _).length_eq]
    simp [hlen]
  · show (List.map (fun p : Lit × DataW Unit => strOf p.1) (List.foldr DataW.insert [] _)).Perm _
    refine ((WideShapes.sorted_perm _).map _).trans ?_
    rw [List.map_map]
    have e1 : es.toList.map ((fun p : Lit × DataW Unit => strOf p.1) ∘ WideElems.rg Tryz.prog 9 (fun _ => some (.lit (.bool true), []))) = L.map fun p => p.1.data.toList := by
      apply List.ext_getElem?
      intro i
      rw [List.getElem?_map, List.getElem?_map]
      have hi := congrArg (fun l => l[i]?) hL
      simp only [List.getElem?_map] at hi
      cases hx : es.toList[i]? with
      | none =>
        rw [hx] at hi
        cases hp : L[i]? with
        | none => rfl
        | some p => rw [hp] at hi; cases hi
      | some x =>
        rw [hx] at hi
        cases hp : L[i]? with
        | none => rw [hp] at hi; cases hi
        | some p =>
          rw [hp] at hi
          simp only [Option.map_some, Option.some.injEq, Prod.mk.injEq] at hi
          simp only [Option.map_some, Function.comp_apply]
          rw [WideElems.rg_of (hrd x (List.mem_of_getElem? hx) p (List.mem_of_getElem? hp) hi.1)]
          rfl
    rw [e1]
set_option maxRecDepth 100000 in
set_option maxHeartbeats 1000000 in
theorem digests_set (sb mb : Nat) (S : List (ByteArray × Obj)) (w : World) (hS : SetAt w sb mb S) (hz : ∀ p ∈ S, p.1.size ≤ 1000000) (hn : S.length ≤ 1000000) :
    Calls Tryz.prog 32 #[.pointer (some ⟨sb, 0, none⟩)] w fun e w' => ∃ v, e = .returned v ∧ SlS w' v (sortB (S.map (·.1))) ∧ Ext w w' := by
  obtain ⟨h1, L, h2, h3, rfl⟩ := hS
  have hln : (L.map entV).length = (L.map entO).length := by simp
  obtain ⟨D0, hown, hsz, hperm⟩ := h2.owns (fun p hp => by
    obtain ⟨q, hq, rfl⟩ := List.mem_map.1 hp
    have := hz _ (List.mem_map.2 ⟨q, hq, rfl⟩)
    simp only [entO, entV, maxLen] at this ⊢
    omega) (by simp only [maxLen]; omega)
  have c0 := cell_of h1 (j := 0) (v := .map (some mb)) rfl
  have hK := callsIn_wide.1 (Tryz.maps_Keys_It (some mb) w)
  have hD := callsIn_wide.1 (Tryz.slices_Sorted_keys_It mb _ D0 _ w hown (by rw [hsz]; simp only [maxLen]; omega) (by rw [hsz]; omega))
  have HK := Hd.mk hK; have HD := Hd.mk hD; have HP := Hd.mk hperm; clear hK hD hperm hown hsz hz h1 h2 h3
  go_enter Tryz.func32, Tryz.ntmps32
  go_wp2_with fail
  refine HK.out.mono ?_; rintro e w1 ⟨rfl, rfl⟩
  go_wp2_with fail
  refine HD.out.mono ?_; rintro e w2 ⟨v, ss, rfl, hp, hown, _, hx⟩
  have hx2 := ((Ext.refl w).alloc _).trans hx
  have hss : ss.Perm ((L.map entO).map fun p => p.1.data.toList) := by
    refine hp.trans (HP.out.trans ?_)
    rw [List.map_map, List.map_map]
    first | done | exact List.Perm.refl _
  have hsl : SlS w2 v (sortB ((L.map entO).map (·.1))) := by
    have e1 : (ss.mergeSort fun x y => decide (x ≤ y)).map encStr = strs (sortB ((L.map entO).map (·.1))) := by
      have e0 : ((L.map entO).map fun p => p.1.data.toList) = ((L.map entO).map (·.1)).map fun x => x.data.toList := by
        simp only [List.map_map]; rfl
      rw [sort_perm hss, e0, sortB, strs]
      simp only [List.map_map]
      rfl
    have e2 : ss.length = (sortB ((L.map entO).map (·.1))).length := by
      rw [sortB_length, hss.length_eq]; simp
    rw [e1, e2] at hown
    exact SlS.own hown
  have HSL := Hd.mk hsl; clear hsl hown hx hp hss
  go_wp2
  go_ret
  exact ⟨_, rfl, HSL.out, hx2⟩
end Go.Proofs.YtfofapggmoibkaaGreatDoor
