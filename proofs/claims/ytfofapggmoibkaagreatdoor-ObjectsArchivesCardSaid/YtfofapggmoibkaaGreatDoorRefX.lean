/- The reference's objects (r49), walked: Same, Few. The reference's objects (r49), walked: Same, Few, Read, Decode. The reference's objects (r49), walked: Read, Decode. The reference's objects (r49), walked: Decode. -/
import Derived.Test.YtfofapggmoibkaaGreatDoorProg
import Derived.Test.YtfofapggmoibkaaGreatDoorObjX
set_option linter.unusedVariables false
set_option linter.unusedSimpArgs false
namespace Go.Proofs.YtfofapggmoibkaaGreatDoor
open Go Go.RowKit

def sameL (a b : List ByteArray) : Bool := decide (a = b)
set_option maxRecDepth 100000 in
set_option maxHeartbeats 1000000 in
theorem sameStrings_any (a b : List ByteArray) (A B : Option Addr) (c d : Nat) (w : World) (ha : a.length ≤ 9223372036854775807) (hb : b.length ≤ 9223372036854775807) (hA : StrsAt w A a) (hB : StrsAt w B b) :
    Calls Tryz.prog 54 #[.slice A a.length c, .slice B b.length d] w fun e w' => e = .returned (.bool (sameL a b)) ∧ Ext w w' := by
  have HA := Hd.mk hA; have HB := Hd.mk hB; clear hA hB
  by_cases hlen : a.length = b.length
  · have HL := Hd.mk hlen
    have hne : ((a.length : Int) != (b.length : Int)) = false := by simp [hlen]
    rw [← hlen] at hne ⊢
    clear hlen hne
    go_enter Tryz.func54, Tryz.ntmps54
    go_wp2
    go_loopw [5] (fun i wr => ∃ (k : Nat), i = .int .i64 (k : Int) ∧ k ≤ a.length ∧ Hd (a.take k = b.take k) ∧ Ext w wr) (fun i _ => a.length - (intOf i).toNat)
    case atStart => exact ⟨0, rfl, by omega, ⟨by simp⟩, Ext.refl w⟩
    case round =>
      obtain ⟨k, rfl, hk, hd, hext⟩ := hrel
      by_cases hlt : k < a.length
      · have hga : a[k]? = some a[k] := List.getElem?_eq_getElem hlt
        have hgb : b[k]? = some (b[k]'(by rw [← HL.out]; exact hlt)) := List.getElem?_eq_getElem _
        obtain ⟨b1, o1, hix1, hc1⟩ := (HA.out.ext hext).get 22 9 Tryz.underlying22 Tryz.sizeOf9 a.length c k rfl hga
        obtain ⟨b2, o2, hix2, hc2⟩ := (HB.out.ext hext).get 22 9 Tryz.underlying22 Tryz.sizeOf9 a.length d k HL.out hgb
        generalize a[k] = x at *
        generalize b[k]'_ = y at *
        have HGA := Hd.mk hga; have HGB := Hd.mk hgb; clear hga hgb
        by_cases hxy : x = y
        · have hne := str_t hxy
          have HXY := Hd.mk hxy; clear hxy
          go_wp2
          refine wp_region_pi (fun w' => w'.cell? ⟨b1, o1, none⟩ = some (.string x) ∧ w'.cell? ⟨b2, o2, none⟩ = some (.string y)) [(true, 0), (true, 1), (true, 2), (true, 3), (true, 4), (true, 5), (true, 6), (true, 7), (true, 8)] (by kernel_rfl) (by kernel_rfl) (by intro c a d v w h; cases d <;> exact h) ?_
          iterate 9 (refine pi_still rfl ⟨hc1, hc2⟩ rfl (fun w' hS => by obtain ⟨s1, s2⟩ := hS; go_simp; rfl) ?_; intro K hK; go_simp; refine hK _ _ ?_; clear hK K)
          refine pi_nil ?_
          clear hix1 hix2
          go_wp2
          go_roundw
          case rel => exact ⟨k + 1, by go_num, by omega, ⟨by rw [take_snoc HGA.out, take_snoc HGB.out, hd.out, HXY.out]⟩, hext.drew⟩
          case measure => simp only [intOf]; omega
        · have hne := str_f hxy
          have HXY := Hd.mk hxy; clear hxy
          go_wp2
          refine wp_region_pi (fun w' => w'.cell? ⟨b1, o1, none⟩ = some (.string x) ∧ w'.cell? ⟨b2, o2, none⟩ = some (.string y)) [(true, 0), (true, 1), (true, 2), (true, 3), (true, 4), (true, 5), (true, 6), (true, 7), (true, 8)] (by kernel_rfl) (by kernel_rfl) (by intro c a d v w h; cases d <;> exact h) ?_
          iterate 9 (refine pi_still rfl ⟨hc1, hc2⟩ rfl (fun w' hS => by obtain ⟨s1, s2⟩ := hS; go_simp; rfl) ?_; intro K hK; go_simp; refine hK _ _ ?_; clear hK K)
          refine pi_nil ?_
          clear hix1 hix2
          go_wp2
          go_ret
          refine ⟨congrArg Ending.returned (vbool ?_), hext.drew⟩
          symm
          rw [sameL, decide_eq_false_iff_not]
          intro hh
          have h1 := HGA.out
          rw [hh, HGB.out] at h1
          injection h1 with h1
          exact HXY.out h1.symm
      · obtain rfl : k = a.length := by omega
        go_wp2
        go_ret
        refine ⟨congrArg Ending.returned (vbool ?_), hext⟩
        symm
        rw [sameL, decide_eq_true_eq]
        have h1 := hd.out
        rwa [List.take_length, HL.out, List.take_length] at h1
  · have hne : ((a.length : Int) != (b.length : Int)) = true := by simp; omega
    have HL := Hd.mk hlen; clear hlen
    go_enter Tryz.func54, Tryz.ntmps54
    go_wp2
    go_ret
    refine ⟨congrArg Ending.returned (vbool ?_), Ext.refl w⟩
    symm
    rw [sameL, decide_eq_false_iff_not]
    intro hh; exact HL.out (by rw [hh])
def sumS (l : List ByteArray) : Nat := (l.map ByteArray.size).sum
theorem sumS_snoc (l : List ByteArray) (x : ByteArray) : sumS (l ++ [x]) = sumS l + x.size := by simp [sumS]
theorem sumS_bound (M : Nat) : ∀ l : List ByteArray, (∀ x ∈ l, x.size ≤ M) → sumS l ≤ l.length * M
  | [], _ => by simp [sumS]
  | x :: l, h => by
    have h1 := sumS_bound M l (fun y hy => h y (by simp [hy]))
    have h2 := h x (by simp)
    have e : sumS (x :: l) = x.size + sumS l := by simp [sumS]
    rw [e, List.length_cons, Nat.succ_mul]; omega
set_option maxRecDepth 100000 in
set_option maxHeartbeats 1000000 in
theorem few46_any (l : List ByteArray) (A : Option Addr) (c : Nat) (w : World) (hl : l.length ≤ 70) (hM : ∀ x ∈ l, x.size ≤ 140737488355328) (hA : StrsAt w A l) :
    Calls Tryz.prog 35 #[.slice A l.length c] w fun e w' => e = .returned (.bool (decide (sumS l ≤ 20000))) ∧ w = w' := by
  have HA := Hd.mk hA; have HM := Hd.mk hM; clear hA hM
  go_enter Tryz.func35, Tryz.ntmps35
  go_wp2
  go_loop [3, 4] (fun n i => ∃ (k m : Nat), i = .int .i64 (k : Int) ∧ k ≤ l.length ∧ n = .int .i64 (m : Int) ∧ Hd (m = sumS (l.take k))) (fun _ i => l.length - (intOf i).toNat)
  case atStart => exact ⟨0, 0, rfl, by omega, rfl, ⟨rfl⟩⟩
  case round =>
    obtain ⟨k, m, rfl, hk, rfl, hm⟩ := hrel
    have hmb : m ≤ 9851624184872960 := by
      have h1 := sumS_bound 140737488355328 (l.take k) (fun x hx => HM.out x (List.mem_of_mem_take hx))
      rw [hm.out]
      have h2 : (l.take k).length * 140737488355328 ≤ 70 * 140737488355328 := Nat.mul_le_mul_right _ (by rw [List.length_take]; omega)
      omega
    by_cases hlt : k < l.length
    · have hgk : l[k]? = some l[k] := List.getElem?_eq_getElem hlt
      obtain ⟨b, o, hix, hcell⟩ := (HA.out).get 22 9 Tryz.underlying22 Tryz.sizeOf9 l.length c k rfl hgk
      have hix' := hix w
      clear hix
      have hxs := HM.out _ (List.getElem_mem hlt)
      generalize l[k] = x at *
      have HG := Hd.mk hgk; clear hgk
      go_wp2
      go_round
      case rel => exact ⟨k + 1, m + x.size, by go_num, by omega, by go_num, ⟨by rw [take_snoc HG.out, sumS_snoc, hm.out]⟩⟩
      case measure => simp only [intOf]; omega
    · obtain rfl : k = l.length := by omega
      have hm2 : m = sumS l := by have := hm.out; rwa [List.take_length] at this
      have HM2 := Hd.mk hm2; clear hm2 hm
      go_wp2
      go_ret
      exact ⟨congrArg Ending.returned (vbool (by rw [← HM2.out, Bool.eq_iff_iff]; simp; omega)), rfl⟩
end Go.Proofs.YtfofapggmoibkaaGreatDoor
namespace Go.Proofs.YtfofapggmoibkaaGreatDoor
open Go Go.RowKit

def sameO (a b : Obj) : Bool := decide (a.kind = b.kind) && decide (a.data = b.data) && sameL a.refs b.refs
theorem sameO_iff (a b : Obj) : sameO a b = true ↔ a = b := by
  obtain ⟨k, l, d⟩ := a
  obtain ⟨k', l', d'⟩ := b
  simp [sameO, sameL]
  constructor
  · rintro ⟨⟨h1, h2⟩, h3⟩; exact ⟨h1, h3, h2⟩
  · rintro ⟨h1, h2, h3⟩; exact ⟨⟨h1, h3⟩, h2⟩
set_option maxRecDepth 100000 in
set_option maxHeartbeats 1000000 in
theorem same_any (a b : Obj) (A B : Option Addr) (c d : Nat) (w : World) (ha : a.refs.length ≤ 9223372036854775807) (hb : b.refs.length ≤ 9223372036854775807) (hA : StrsAt w A a.refs) (hB : StrsAt w B b.refs) :
    Calls Tryz.prog 17 #[.agg #[.int .i64 a.kind, .slice A a.refs.length c, .string a.data], .agg #[.int .i64 b.kind, .slice B b.refs.length d, .string b.data]] w fun e w' => e = .returned (.bool (sameO a b)) ∧ Ext w w' := by
  obtain ⟨k, l, x⟩ := a
  obtain ⟨k', l', y⟩ := b
  simp only at *
  have HA := Hd.mk hA; have HB := Hd.mk hB; clear hA hB
  have HE := Hd.mk (((Ext.refl w).alloc (.cells #[.int .i64 k, .slice A l.length c, .string x] 24)).alloc (.cells #[.int .i64 k', .slice B l'.length d, .string y] 24))
  by_cases h1 : k = k'
  · have e1 : (k == k') = true := by simp [h1]
    have H1 := Hd.mk h1; clear h1
    by_cases h2 : x = y
    · have e2 := str_t h2
      have H2 := Hd.mk h2; clear h2
      go_enter Tryz.func17, Tryz.ntmps17
      go_wp2_with fail
      refine (sameStrings_any l l' A B c d _ ha hb (HA.out.ext HE.out) (HB.out.ext HE.out)).mono ?_; rintro e w1 ⟨rfl, hx1⟩
      go_wp2
      go_ret
      exact ⟨congrArg Ending.returned (vbool (by simp [sameO, H1.out, H2.out])), HE.out.trans hx1⟩
    · have e2 := str_f h2
      have H2 := Hd.mk h2; clear h2
      go_enter Tryz.func17, Tryz.ntmps17
      go_wp2_with fail
      go_ret
      exact ⟨congrArg Ending.returned (vbool (by simp [sameO, H2.out])), HE.out⟩
  · have e1 : (k == k') = false := by simp [h1]
    have H1 := Hd.mk h1; clear h1
    go_enter Tryz.func17, Tryz.ntmps17
    go_wp2_with fail
    go_ret
    exact ⟨congrArg Ending.returned (vbool (by simp [sameO, H1.out])), HE.out⟩
def fewO (o : Obj) : Bool := decide (o.data.size ≤ 2000) && decide (o.refs.length ≤ 70) && decide (sumS o.refs ≤ 20000)
set_option maxRecDepth 100000 in
set_option maxHeartbeats 1000000 in
theorem few_any (o : Obj) (A : Option Addr) (c : Nat) (w : World) (hl : o.refs.length ≤ 9223372036854775807) (hd : o.data.size ≤ 9223372036854775807) (hM : ∀ x ∈ o.refs, x.size ≤ 140737488355328) (hA : StrsAt w A o.refs) :
    Calls Tryz.prog 10 #[.agg #[.int .i64 o.kind, .slice A o.refs.length c, .string o.data]] w fun e w' => e = .returned (.bool (fewO o)) ∧ Ext w w' := by
  obtain ⟨k, l, d⟩ := o
  simp only at *
  have HA := Hd.mk hA; have HM := Hd.mk hM; clear hA hM
  have HE := Hd.mk ((Ext.refl w).alloc (.cells #[.int .i64 k, .slice A l.length c, .string d] 24))
  by_cases h1 : d.size ≤ 2000
  · by_cases h2 : l.length ≤ 70
    · go_enter Tryz.func10, Tryz.ntmps10
      go_wp2_with fail
      refine (few46_any l A c _ h2 HM.out (HA.out.ext HE.out)).mono ?_; rintro e _ ⟨rfl, rfl⟩
      go_wp2
      go_ret
      exact ⟨congrArg Ending.returned (vbool (by simp [fewO, h1, h2])), HE.out⟩
    · go_enter Tryz.func10, Tryz.ntmps10
      go_wp2_with fail
      go_ret
      exact ⟨congrArg Ending.returned (vbool (by simp [fewO]; intros; omega)), HE.out⟩
  · go_enter Tryz.func10, Tryz.ntmps10
    go_wp2_with fail
    go_ret
    exact ⟨congrArg Ending.returned (vbool (by simp [fewO]; intros; omega)), HE.out⟩
theorem results_cell_tmp2 {fn : Func} {p u v : Tmp} {ty : TypeId} (h : fn.results = #[.cell p ty, .tmp u, .tmp v]) (tmps : Array Value) (P : Program) (w : World) :
    (results fn tmps).run P w =
      ((asAddr (tmps.getD p undef)).run P w).andThen fun a w₁ => ((loadVar ty a).run P w₁).andThen fun x w₂ => .ok (.tuple #[x, tmps.getD u undef, tmps.getD v undef]) w₂ := by
  simp only [results, h]
  simp [Sem.run_bind, Result.andThen]
theorem ret_cell_tmp2 {P : Program} {fn : Func} {p u u' : Tmp} {ty : TypeId} (h : fn.results = #[.cell p ty, .tmp u, .tmp u']) (tmps : Array Value) (w : World) (g : Nat) (t : TypeId) (cs : Array Value) (d : TypeDesc) (v v' : Value)
    (hp : tmps.getD p undef = .pointer (some ⟨g, 0, none⟩)) (hv : tmps.getD u undef = v) (hv' : tmps.getD u' undef = v') (hg : w.heap[g]? = some (.cells cs t (0, 0))) (hu : P.underlying ty = some d) (hd : (match d with | .struct _ | .array _ _ => true | _ => false) = true) (hi : (P.info? ty).map (·.size) = some cs.size) :
    (results fn tmps).run P w = .ok (.tuple #[.agg cs, v, v']) w := by
  rw [results_cell_tmp2 h, hp, hv, hv']
  have e : (asAddr (.pointer (some ⟨g, 0, none⟩))).run P w = .ok ⟨g, 0, none⟩ w := by simp [asAddr]
  rw [e]
  simp only [Result.andThen_ok]
  rw [run_loadVar_row w g t ty cs (0, 0) d hg hu hd hi]
  rfl
end Go.Proofs.YtfofapggmoibkaaGreatDoor
namespace Go.Proofs.YtfofapggmoibkaaGreatDoor
open Go Go.RowKit

/-- what is read at an offset -/
def refO (s : ByteArray) (at_ : Nat) : Option (Obj × Nat) :=
  match sizeO s at_ with
  | none => none
  | some (k, a1) => match textsO s a1 with
    | none => none
    | some (l, a2) => match textO s a2 with
      | none => none
      | some (d, a3) => if validB ⟨(k : Int), l, d⟩ = true then some (⟨(k : Int), l, d⟩, a3) else none
def ReadPost (w : World) (r : Option (Obj × Nat)) (e : Ending) (w' : World) : Prop :=
  Ext w w' ∧ match r with
  | some (o, next) => ∃ A c, StrsAt w' A o.refs ∧ o.refs.length ≤ c ∧ FreshV w.heap.size (.slice A o.refs.length c) ∧ e = .returned (.tuple #[.agg (objC o A c), .int .i64 next, .bool true])
  | none => e = .returned (.tuple #[.agg objZ, .int .i64 0, .bool false])
theorem refO_bound {s : ByteArray} {a : Nat} {o : Obj} {next : Nat} (h : refO s a = some (o, next)) : next ≤ s.size ∧ validB o = true := by
  unfold refO at h
  split at h
  · cases h
  · split at h
    · cases h
    · split at h
      · cases h
      · rename_i heq
        split at h
        · injection h with h
          injection h with h1 h2
          subst h1; subst h2
          exact ⟨(textO_bound heq).2.1, by assumption⟩
        · cases h

set_option maxRecDepth 100000 in
set_option maxHeartbeats 4000000 in
theorem readR_any (s : ByteArray) (hs : s.size ≤ 900000) (at_ : Nat) (ha : at_ ≤ 1000000) (w : World) :
    Calls Tryz.prog 53 #[.string s, .int .i64 at_] w (ReadPost w (refO s at_)) := by
  have hzz : Hd ((w.alloc (.cells objZ 24)).heap[w.heap.size]? = some (.cells objZ 24 (0, 0))) := ⟨heap_alloc_new w _⟩
  have HX0 := Hd.mk ((Ext.refl w).alloc (.cells objZ 24))
  have hz1 : (w.alloc (.cells objZ 24)).heap.size = w.heap.size + 1 := by simp
  have HZ1 := Hd.mk hz1; clear hz1
  generalize hr : refO s at_ = r
  unfold refO at hr
  cases h1 : sizeO s at_ with
  | none =>
    rw [h1] at hr
    have H1 := Hd.mk h1; have HR := Hd.mk hr; clear h1 hr
    go_enter Tryz.func53, Tryz.ntmps53
    go_wp2_with fail
    refine (readUint_no _ (by omega) (by omega) H1).mono ?_; rintro e _ ⟨rfl, rfl⟩
    go_wp2_with (refine stRow 24 w.heap.size objZ ?_ ?_ 24 objZ ?_ ?_ ?_ ?_ ?_; rfl; rfl; exact hzz.out; exact size_obj; rfl; exact objZ_one)
    refine bodyPost_ret (v := .tuple #[.agg objZ, .int .i64 0, .bool false]) ?_ (by rfl) ?_
    · exact ret_cell_tmp2 (p := 4) (u := 5) (u' := 6) (ty := 24) rfl _ _ w.heap.size 24 objZ _ _ _ (by rfl) (by rfl) (by rfl) (row_block hzz.out) Tryz.underlying24 rfl size_obj
    · rw [← HR.out]
      exact ⟨HX0.out.row (Nat.le_refl _) _, rfl⟩
  | some r1 =>
    obtain ⟨k, a1⟩ := r1
    have hb1 := sizeO_bound h1
    rw [h1] at hr
    simp only at hr
    have H1 := Hd.mk h1; clear h1
    cases h2 : textsO s a1 with
    | none =>
      rw [h2] at hr
      have H2 := Hd.mk h2; have HR := Hd.mk hr; clear h2 hr
      go_enter Tryz.func53, Tryz.ntmps53
      go_wp2_with fail
      refine (readUint_ok _ (by omega) (by omega) H1).mono ?_; rintro e _ ⟨rfl, rfl⟩
      go_wp2_with fail
      refine (readTexts_any _ (by omega) (by omega)).mono ?_; rw [H2.out]; rintro e w2 ⟨hx2, rfl⟩
      have HX2 := Hd.mk hx2; clear hx2
      go_wp2_with (refine stRow 24 w.heap.size objZ ?_ ?_ 24 objZ ?_ ?_ ?_ ?_ ?_; rfl; rfl; exact HX2.out.obj hzz.out; exact size_obj; rfl; exact objZ_one)
      refine bodyPost_ret (v := .tuple #[.agg objZ, .int .i64 0, .bool false]) ?_ (by rfl) ?_
      · exact ret_cell_tmp2 (p := 4) (u := 5) (u' := 6) (ty := 24) rfl _ _ w.heap.size 24 objZ _ _ _ (by rfl) (by rfl) (by rfl) (row_block (HX2.out.obj hzz.out)) Tryz.underlying24 rfl size_obj
      · rw [← HR.out]
        exact ⟨(HX0.out.trans HX2.out).row (Nat.le_refl _) _, rfl⟩
    | some r2 =>
      obtain ⟨l, a2⟩ := r2
      have hb2 := textsO_bound h2
      rw [h2] at hr
      simp only at hr
      obtain ⟨hb21, hb22, hb23, hb24⟩ := hb2
      have H2 := Hd.mk h2; clear h2 hb24
      cases h3 : textO s a2 with
      | none =>
        rw [h3] at hr
        have H3 := Hd.mk h3; have HR := Hd.mk hr; clear h3 hr
        go_enter Tryz.func53, Tryz.ntmps53
        go_wp2_with fail
        refine (readUint_ok _ (by omega) (by omega) H1).mono ?_; rintro e _ ⟨rfl, rfl⟩
        go_wp2_with fail
        refine (readTexts_any _ (by omega) (by omega)).mono ?_; rw [H2.out]; rintro e w2 ⟨hx2, A, c, hA, hc, hfv, rfl⟩
        have HX2 := Hd.mk hx2; have HA := Hd.mk hA; have HFV := Hd.mk hfv; clear hx2 hA hfv
        go_wp2_with fail
        refine (readText_no _ (by omega) (by omega) H3).mono ?_; rintro e _ ⟨rfl, rfl⟩
        go_wp2_with (first
          | (refine boxRow 24 objZ ?_ (objC ⟨(k : Int), l, ⟨#[]⟩⟩ A c) (n := 53) (i := 11) (k := 42) ?_ ?_ ?_ ?_ ?_ ?_; exact info_obj; rfl; decide; rfl; rfl; exact objC_one _ _ _; intro w3 h3 hx3 hz3; have H3 := Hd.mk h3; have HX3 := Hd.mk hx3; clear h3 hx3 hz3)
          | (refine stRow 24 w.heap.size objZ ?_ ?_ 24 objZ ?_ ?_ ?_ ?_ ?_; rfl; rfl; exact HX3.out.obj (HX2.out.obj hzz.out); exact size_obj; rfl; exact objZ_one))
        refine bodyPost_ret (v := .tuple #[.agg objZ, .int .i64 0, .bool false]) ?_ (by rfl) ?_
        · exact ret_cell_tmp2 (p := 4) (u := 5) (u' := 6) (ty := 24) rfl _ _ w.heap.size 24 objZ _ _ _ (by rfl) (by rfl) (by rfl) (row_block (HX3.out.obj (HX2.out.obj hzz.out))) Tryz.underlying24 rfl size_obj
        · rw [← HR.out]
          exact ⟨((HX0.out.trans HX2.out).trans HX3.out).row (Nat.le_refl _) _, rfl⟩
      | some r3 =>
        obtain ⟨d, a3⟩ := r3
        have hb3 := textO_bound h3
        rw [h3] at hr
        simp only at hr
        obtain ⟨hb31, hb32, hb33⟩ := hb3
        have H3 := Hd.mk h3; clear h3
        cases hv : validB ⟨(k : Int), l, d⟩ with
        | false =>
          rw [hv] at hr
          have HV := Hd.mk hv; have HR := Hd.mk hr; clear hv hr
          go_enter Tryz.func53, Tryz.ntmps53
          go_wp2_with fail
          refine (readUint_ok _ (by omega) (by omega) H1).mono ?_; rintro e _ ⟨rfl, rfl⟩
          go_wp2_with fail
          refine (readTexts_any _ (by omega) (by omega)).mono ?_; rw [H2.out]; rintro e w2 ⟨hx2, A, c, hA, hc, hfv, rfl⟩
          have HX2 := Hd.mk hx2; have HA := Hd.mk hA; have HFV := Hd.mk hfv; clear hx2 hA hfv
          go_wp2_with fail
          refine (readText_ok _ (by omega) (by omega) H3).mono ?_; rintro e _ ⟨rfl, rfl⟩
          go_wp2_with (refine boxRow 24 objZ ?_ (objC ⟨(k : Int), l, d⟩ A c) (n := 53) (i := 11) (k := 42) ?_ ?_ ?_ ?_ ?_ ?_; exact info_obj; rfl; decide; rfl; rfl; exact objC_one _ _ _; intro w3 h3 hx3 hz3; have H3 := Hd.mk h3; have HX3 := Hd.mk hx3; have q0 := cell_of h3 (j := 0) (v := .int .i64 k) rfl; have q1 := cell_of h3 (j := 1) (v := .slice A l.length c) rfl; have q2 := cell_of h3 (j := 2) (v := .string d) rfl; clear h3 hx3 hz3)
          refine (validR_is ⟨(k : Int), l, d⟩ false HV A c _ (by simp only; omega) (by simp only; omega) (HA.out.ext HX3.out)).mono ?_; rintro e w4 ⟨rfl, hx4⟩
          have HX4 := Hd.mk (HX3.out.trans hx4); clear hx4 q0 q1 q2
          go_wp2_with (refine stRow 24 w.heap.size objZ ?_ ?_ 24 objZ ?_ ?_ ?_ ?_ ?_; rfl; rfl; exact HX4.out.obj (HX2.out.obj hzz.out); exact size_obj; rfl; exact objZ_one)
          refine bodyPost_ret (v := .tuple #[.agg objZ, .int .i64 0, .bool false]) ?_ (by rfl) ?_
          · exact ret_cell_tmp2 (p := 4) (u := 5) (u' := 6) (ty := 24) rfl _ _ w.heap.size 24 objZ _ _ _ (by rfl) (by rfl) (by rfl) (row_block (HX4.out.obj (HX2.out.obj hzz.out))) Tryz.underlying24 rfl size_obj
          · rw [← HR.out]
            exact ⟨((HX0.out.trans HX2.out).trans HX4.out).row (Nat.le_refl _) _, rfl⟩
        | true =>
          rw [hv] at hr
          have HV := Hd.mk hv; have HR := Hd.mk hr; clear hv hr
          go_enter Tryz.func53, Tryz.ntmps53
          go_wp2_with fail
          refine (readUint_ok _ (by omega) (by omega) H1).mono ?_; rintro e _ ⟨rfl, rfl⟩
          go_wp2_with fail
          refine (readTexts_any _ (by omega) (by omega)).mono ?_; rw [H2.out]; rintro e w2 ⟨hx2, A, c, hA, hc, hfv, rfl⟩
          have hfv := (show FreshV (w.alloc (.cells objZ 24)).heap.size _ from hfv)
          rw [HZ1.out] at hfv
          have HX2 := Hd.mk hx2; have HA := Hd.mk hA; have HFV := Hd.mk hfv; clear hx2 hA hfv
          go_wp2_with fail
          refine (readText_ok _ (by omega) (by omega) H3).mono ?_; rintro e _ ⟨rfl, rfl⟩
          go_wp2_with (refine boxRow 24 objZ ?_ (objC ⟨(k : Int), l, d⟩ A c) (n := 53) (i := 11) (k := 42) ?_ ?_ ?_ ?_ ?_ ?_; exact info_obj; rfl; decide; rfl; rfl; exact objC_one _ _ _; intro w3 h3 hx3 hz3; have H3 := Hd.mk h3; have HX3 := Hd.mk hx3; have q0 := cell_of h3 (j := 0) (v := .int .i64 k) rfl; have q1 := cell_of h3 (j := 1) (v := .slice A l.length c) rfl; have q2 := cell_of h3 (j := 2) (v := .string d) rfl; clear h3 hx3 hz3)
          refine (validR_is ⟨(k : Int), l, d⟩ true HV A c _ (by simp only; omega) (by simp only; omega) (HA.out.ext HX3.out)).mono ?_; rintro e w4 ⟨rfl, hx4⟩
          have HX4 := Hd.mk (HX3.out.trans hx4)
          have HO4 := Hd.mk (hx4.obj H3.out)
          have q0 := cell_of HO4.out (j := 0) (v := .int .i64 k) rfl; have q1 := cell_of HO4.out (j := 1) (v := .slice A l.length c) rfl; have q2 := cell_of HO4.out (j := 2) (v := .string d) rfl
          clear hx4
          go_wp2_with (refine stRow 24 w.heap.size (objC ⟨(k : Int), l, d⟩ A c) ?_ ?_ 24 objZ ?_ ?_ ?_ ?_ ?_; rfl; rfl; exact HX4.out.obj (HX2.out.obj hzz.out); exact size_obj; rfl; exact objC_one _ _ _)
          refine bodyPost_ret (v := .tuple #[.agg (objC ⟨(k : Int), l, d⟩ A c), .int .i64 a3, .bool true]) ?_ (by rfl) ?_
          · exact ret_cell_tmp2 (p := 4) (u := 5) (u' := 6) (ty := 24) rfl _ _ w.heap.size 24 (objC ⟨(k : Int), l, d⟩ A c) _ _ _ (by rfl) (by rfl) (by rfl) (row_block (HX4.out.obj (HX2.out.obj hzz.out))) Tryz.underlying24 rfl size_obj
          · rw [← HR.out]
            exact ⟨((HX0.out.trans HX2.out).trans HX4.out).row (Nat.le_refl _) _, A, c, (HA.out.ext HX4.out).row' (HFV.out.ne (by omega)) _, hc, HFV.out.mono (by omega), rfl⟩
end Go.Proofs.YtfofapggmoibkaaGreatDoor
namespace Go.Proofs.YtfofapggmoibkaaGreatDoor
open Go Go.RowKit

def refDec (s : ByteArray) : Option Obj := match refO s 0 with | some (o, next) => if next = s.size then some o else none | none => none
theorem readR_is (s : ByteArray) (hs : s.size ≤ 900000) (r : Option (Obj × Nat)) (H : Hd (refO s 0 = r)) (w : World) : Calls Tryz.prog 53 #[.string s, .int .i64 0] w (ReadPost w r) := by
  have := readR_any s hs 0 (by omega) w
  rw [H.out] at this
  exact this
set_option maxRecDepth 100000 in
set_option maxHeartbeats 2000000 in
theorem decodeR_any (s : ByteArray) (hs : s.size ≤ 900000) (w : World) :
    Calls Tryz.prog 16 #[.string s] w (DecPost w (refDec s) 9) := by
  have hzz : Hd ((w.alloc (.cells objZ 24)).heap[w.heap.size]? = some (.cells objZ 24 (0, 0))) := ⟨heap_alloc_new w _⟩
  have HX0 := Hd.mk ((Ext.refl w).alloc (.cells objZ 24))
  have hz1 : (w.alloc (.cells objZ 24)).heap.size = w.heap.size + 1 := by simp
  have HZ1 := Hd.mk hz1; clear hz1
  generalize hr : refDec s = r
  unfold refDec at hr
  cases h1 : refO s 0 with
  | none =>
    rw [h1] at hr
    have H1 := Hd.mk h1; have HR := Hd.mk hr; clear h1 hr
    go_enter Tryz.func16, Tryz.ntmps16
    go_wp2_with fail
    refine (readR_is s hs _ H1 _).mono ?_; rintro e w1 ⟨hx1, rfl⟩
    have HX1 := Hd.mk hx1; clear hx1
    go_wp2_with (first
      | (refine boxRow 24 objZ ?_ objZ (n := 23) (i := 4) (k := 10) ?_ ?_ ?_ ?_ ?_ ?_; exact info_obj; rfl; decide; rfl; rfl; exact objZ_one; intro w3 h3 hx3 hz3; have HX3 := Hd.mk hx3; clear h3 hx3 hz3)
      | (refine stRow 24 w.heap.size objZ ?_ ?_ 24 objZ ?_ ?_ ?_ ?_ ?_; rfl; rfl; exact HX3.out.obj (HX1.out.obj hzz.out); exact size_obj; rfl; exact objZ_one))
    refine bodyPost_ret (v := .tuple #[.agg objZ, .int .i64 9]) ?_ (by rfl) ?_
    · exact ret_cell_tmp (p := 2) (u := 3) (ty := 24) rfl _ _ w.heap.size 24 objZ _ _ (by rfl) (by rfl) (row_block (HX3.out.obj (HX1.out.obj hzz.out))) Tryz.underlying24 rfl size_obj
    · rw [← HR.out]
      exact ⟨((HX0.out.trans HX1.out).trans HX3.out).row (Nat.le_refl _) _, rfl⟩
  | some r1 =>
    obtain ⟨o, next⟩ := r1
    obtain ⟨hb1, hb2⟩ := refO_bound h1
    rw [h1] at hr
    simp only at hr
    have H1 := Hd.mk h1; clear h1
    by_cases hn : next = s.size
    · have hne : ((next : Int) != (s.size : Int)) = false := by simp [hn]
      rw [if_pos hn] at hr
      have HR := Hd.mk hr; clear hn hr
      go_enter Tryz.func16, Tryz.ntmps16
      go_wp2_with fail
      refine (readR_is s hs _ H1 _).mono ?_; rintro e w1 ⟨hx1, A, c, hA, hc, hfv, rfl⟩
      have hfv := (show FreshV (w.alloc (.cells objZ 24)).heap.size _ from hfv)
      rw [HZ1.out] at hfv
      have HX1 := Hd.mk hx1; have HA := Hd.mk hA; have HFV := Hd.mk hfv; clear hx1 hA hfv
      go_wp2_with (first
        | (refine boxRow 24 objZ ?_ (objC o A c) (n := 23) (i := 4) (k := 10) ?_ ?_ ?_ ?_ ?_ ?_; exact info_obj; rfl; decide; rfl; rfl; exact objC_one _ _ _; intro w3 h3 hx3 hz3; have H3 := Hd.mk h3; have HX3 := Hd.mk hx3; clear h3 hx3 hz3)
        | (refine ldRow 24 w1.heap.size ?_ 24 (objC o A c) _ H3.out Tryz.underlying24 ?_ ?_ ?_; rfl; rfl; exact size_obj)
        | (refine stRow 24 w.heap.size (objC o A c) ?_ ?_ 24 objZ ?_ ?_ ?_ ?_ ?_; rfl; rfl; exact HX3.out.obj (HX1.out.obj hzz.out); exact size_obj; rfl; exact objC_one _ _ _))
      refine bodyPost_ret (v := .tuple #[.agg (objC o A c), .int .i64 0]) ?_ (by rfl) ?_
      · exact ret_cell_tmp (p := 2) (u := 3) (ty := 24) rfl _ _ w.heap.size 24 (objC o A c) _ _ (by rfl) (by rfl) (row_block (HX3.out.obj (HX1.out.obj hzz.out))) Tryz.underlying24 rfl size_obj
      · rw [← HR.out]
        exact ⟨((HX0.out.trans HX1.out).trans HX3.out).row (Nat.le_refl _) _, A, c, (HA.out.ext HX3.out).row' (HFV.out.ne (by omega)) _, hc, rfl⟩
    · have hne : ((next : Int) != (s.size : Int)) = true := by simp; omega
      rw [if_neg hn] at hr
      have HR := Hd.mk hr; clear hn hr
      go_enter Tryz.func16, Tryz.ntmps16
      go_wp2_with fail
      refine (readR_is s hs _ H1 _).mono ?_; rintro e w1 ⟨hx1, A, c, hA, hc, hfv, rfl⟩
      have HX1 := Hd.mk hx1; clear hx1 hA hfv
      go_wp2_with (first
        | (refine boxRow 24 objZ ?_ (objC o A c) (n := 23) (i := 4) (k := 10) ?_ ?_ ?_ ?_ ?_ ?_; exact info_obj; rfl; decide; rfl; rfl; exact objC_one _ _ _; intro w3 h3 hx3 hz3; have H3 := Hd.mk h3; have HX3 := Hd.mk hx3; clear h3 hx3 hz3)
        | (refine stRow 24 w.heap.size objZ ?_ ?_ 24 objZ ?_ ?_ ?_ ?_ ?_; rfl; rfl; exact HX3.out.obj (HX1.out.obj hzz.out); exact size_obj; rfl; exact objZ_one))
      refine bodyPost_ret (v := .tuple #[.agg objZ, .int .i64 9]) ?_ (by rfl) ?_
      · exact ret_cell_tmp (p := 2) (u := 3) (ty := 24) rfl _ _ w.heap.size 24 objZ _ _ (by rfl) (by rfl) (row_block (HX3.out.obj (HX1.out.obj hzz.out))) Tryz.underlying24 rfl size_obj
      · rw [← HR.out]
        exact ⟨((HX0.out.trans HX1.out).trans HX3.out).row (Nat.le_refl _) _, rfl⟩
end Go.Proofs.YtfofapggmoibkaaGreatDoor
