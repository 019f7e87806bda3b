/- ObjectsReturns: for every object and files the call returns true and leaves its arguments as they were (the card: the two tables of package utf8 that the row lists are tied to the program's text). -/
import Derived.Test.YtfofapggmoibkaaGreatDoorWitX
import Derived.Test.YtfofapggmoibkaaGreatDoorLawY
import Derived.Test.YtfofapggmoibkaaGreatDoorOpenY
set_option linter.unusedVariables false
set_option linter.unusedSimpArgs false
namespace Go.Proofs.YtfofapggmoibkaaGreatDoor
open Go Go.RowKit Go.ChangeShapes Go.WideShapes Go.ChangeAt
open Go.ChangeMaps (open_string shut_string)

theorem reads_objectsReturns (os : Os) {H : Type} (enc : TypeId × Value → H) : ∃ places, DataW.whole enc Tryz.prog ((laidWorld os).forCall (fun _ _ => 0) ⟨#[], #[.agg objZ, .slice none 0 0], []⟩).memory Tryz.f5.params.toList Rows.objectsReturnsSpec.vars false (#[.agg objZ, .slice none 0 0] : Array Value).toList 8 = some ([.agg [.lit (.int .i64 0), .nil, .lit (.string [])], .nil], [], places) :=
  ⟨[], by kernel_rfl⟩
set_option maxRecDepth 100000 in
theorem contract_objectsReturns (H : Type) (enc : TypeId × Value → H) (W : World) (base : Nat) (args : Array Value) (ds gs : List (DataW H)) (before : List MemPlace)
    (hval : ∀ (j : Nat) t v, Tryz.f5.params[j]? = some t → args[j]? = some v → Value.okWide Tryz.prog W .any base t v)
    (hW : DataW.Whole enc Tryz.prog Tryz.f5.params.toList Rows.objectsReturnsSpec.vars false W args.toList ds gs before)
    (hz : (DataW.weightsEach Tryz.prog (Tryz.f5.params.toList ++ (OpenSpec.ofChange Rows.objectsReturnsSpec).bare.plain.varTypes Tryz.prog) (ds ++ gs)).all (· ≤ reachBytes) = true) (hsh : W.ShapedOpen Tryz.prog) :
    Calls Tryz.prog 5 args W fun e W' => ∃ v, e = .returned v ∧ Rows.objectsReturnsSpec.post enc Tryz.prog Tryz.f5 false true false false W args v W' := by
  have hW' := hW
  obtain ⟨p, q, hA0, hV, rfl, hfz, hnd⟩ := hW
  have hA : DataW.TrodAll enc Tryz.prog W 0 (fun _ => true) true Tryz.f5.params.toList args.toList ds p := hA0
  rw [Tryz.params5] at hA hval hz
  obtain ⟨v0, vs0, d0, ds0, p0, q0, hargs, rfl, rfl, h0, r0⟩ := trodAll_cons hA
  obtain ⟨v1, vs1, d1, ds1, p1, q1, rfl, rfl, rfl, h1, r1⟩ := trodAll_cons r0
  obtain ⟨rfl, rfl, rfl⟩ := trodAll_nil r1
  obtain rfl : args = #[v0, v1] := by cases args; simp_all
  obtain ⟨rfl, rfl⟩ := trodVars_none hV
  have hr : reachBytes = 140737488351232 := rfl
  obtain ⟨o, A, c, rfl, hA1, _, hl, hd, hx⟩ := open_obj (hval 0 24 v0 rfl rfl) h0 (fun m hm => by have := List.all_eq_true.1 hz m (DataW.weights_mem_each (j := 0) rfl rfl m hm); simpa using this)
  obtain ⟨A', fs, c', rfl, hA2, hl2, hx2⟩ := open_files (hval 1 34 v1 rfl rfl) h1 (fun m hm => by have := List.all_eq_true.1 hz m (DataW.weights_mem_each (j := 1) rfl rfl m hm); simpa using this)
  refine (returns_any o A c fs A' c' W (by omega) (by omega) (fun x h => by have := hx x h; omega) hA1 (by omega) (fun f h => by have := hx2 f h; omega) hA2 (gv_shaped hsh)).mono fun e W' ⟨he, hg⟩ => ?_
  subst he
  exact ⟨_, rfl, post_true rfl (by kernel_rfl) (by kernel_rfl) rfl rfl rfl hW' hg⟩
set_option maxRecDepth 100000 in
theorem lifted_objectsReturns (os : Os) (started : os.Started) (H : Type) (enc : TypeId × Value → H) (F : Stop.Interp) :
    ReturnsInHanded {} Tryz.checked os 5 .any ((OpenSpec.ofChange Rows.objectsReturnsSpec).preRow enc Tryz.prog Tryz.f5 Rows.objectsReturnsRow.domain false Rows.objectsReturnsRow.laid) (((OpenSpec.ofChange Rows.objectsReturnsSpec).at F).post enc Tryz.prog Tryz.f5 false true false false) := by
  obtain ⟨places, hx⟩ := reads_objectsReturns os enc
  refine returnsInHanded_of_row (C := Tryz.checked) (s := OpenSpec.ofChange Rows.objectsReturnsSpec) own started (by kernel_rfl) Tryz.func5
    (witness_row_at (enc := enc) (C := Tryz.checked) false (laidWorld os) #[.agg objZ, .slice none 0 0] rfl (by kernel_rfl) (by kernel_rfl) (by kernel_rfl)
      (OpenSpec.preRow_of_cond 8 hx (by kernel_rfl) (fun k hk => by cases hk) (by kernel_rfl) (laid_met os _))) ?_
  intro W base args ds gs before hval hW _ _ hz _ hsh _
  exact contract_objectsReturns H enc W base args ds gs before hval hW hz hsh
theorem said_objectsReturns : Rows.ObjectsReturnsSaid :=
  OpenClaim.holds_of_cond 5 Tryz.f5 rfl rfl rfl rfl rfl rfl rfl ⟨rfl, rfl, rfl, rfl, rfl⟩ rfl rfl rfl rfl rfl (by kernel_rfl) Tryz.func5 (by kernel_rfl)
    (of_decide_eq_true (by kernel_rfl)) (by unfold Func.isWrapper; first | (rw [if_pos (by decide +kernel)]; kernel_rfl) | (rw [if_neg (by decide +kernel)]; exact ⟨rfl, rfl⟩))
    (fun os started H enc _ F => by rw [OpenClaim.pre_eq_preRow]; exact lifted_objectsReturns os started H enc F)
theorem plain_objectsReturns (f : FuncId) (fn : Func) (hf : Tryz.pinned.checked.prog.funcNamed "modcert/modcertlaw49.ObjectsReturns" = some f) (hfn : Tryz.pinned.checked.prog.funcs[f]? = some fn) :
    false = Tryz.pinned.checked.prog.looks [] ∧ ∀ (j : Nat) t, fn.params[j]? = some t → Tryz.pinned.checked.prog.wantsStandIn t = false := by
  obtain rfl : f = 5 := Option.some.inj ((show Tryz.prog.funcNamed "modcert/modcertlaw49.ObjectsReturns" = some 5 by kernel_rfl).symm.trans hf) |>.symm
  obtain rfl : fn = Tryz.f5 := (Option.some.inj (Tryz.func5.symm.trans hfn)).symm
  refine ⟨by kernel_rfl, fun j t ht => ?_⟩
  rw [Tryz.params5] at ht
  have hm : t ∈ [24, 34] := by simpa using Array.mem_of_getElem? ht
  have hall : ([24, 34].all fun u => !Tryz.prog.wantsStandIn u) = true := by kernel_rfl
  exact (show Tryz.prog.wantsStandIn t = false by simpa using List.all_eq_true.1 hall t hm)
/-- ObjectsReturns: for every object and files the call returns true and leaves its arguments as they were. -/
theorem objectsReturns_card : Rows.ObjectsReturnsCardSaid :=
  Claim7.holds_tied_plain_at .later [] _ _ _ _ said_objectsReturns (fun _ h => by cases h) (by kernel_rfl) (fun _ h => by cases h) objectsReturns_row_tie rfl ⟨rfl, rfl⟩ (by kernel_rfl) rfl plain_objectsReturns (by kernel_rfl)
#print axioms objectsReturns_card
end Go.Proofs.YtfofapggmoibkaaGreatDoor
