/- ObjectsArchives: for every files and object the call returns true and leaves its arguments as they were (the card: the two tables of package utf8 that the row lists are tied to the program's text). -/
import Derived.Test.YtfofapggmoibkaaGreatDoorWitX
import Derived.Test.YtfofapggmoibkaaGreatDoorLawZ
import Derived.Test.YtfofapggmoibkaaGreatDoorOpenY
set_option linter.unusedVariables false
set_option linter.unusedSimpArgs false
namespace Go.Proofs.YtfofapggmoibkaaGreatDoor
open Go Go.RowKit Go.ChangeShapes Go.WideShapes Go.ChangeAt
open Go.ChangeMaps (open_string shut_string)

theorem reads_objectsArchives (os : Os) {H : Type} (enc : TypeId × Value → H) : ∃ places, DataW.whole enc Tryz.prog ((laidWorld os).forCall (fun _ _ => 0) ⟨#[], #[.slice none 0 0, .agg objZ], []⟩).memory Tryz.f4.params.toList Rows.objectsArchivesSpec.vars false (#[.slice none 0 0, .agg objZ] : Array Value).toList 8 = some ([.nil, .agg [.lit (.int .i64 0), .nil, .lit (.string [])]], [], places) :=
  ⟨[], by kernel_rfl⟩
set_option maxRecDepth 100000 in
theorem contract_objectsArchives (H : Type) (enc : TypeId × Value → H) (W : World) (base : Nat) (args : Array Value) (ds gs : List (DataW H)) (before : List MemPlace)
    (hval : ∀ (j : Nat) t v, Tryz.f4.params[j]? = some t → args[j]? = some v → Value.okWide Tryz.prog W .any base t v)
    (hW : DataW.Whole enc Tryz.prog Tryz.f4.params.toList Rows.objectsArchivesSpec.vars false W args.toList ds gs before)
    (hz : (DataW.weightsEach Tryz.prog (Tryz.f4.params.toList ++ (OpenSpec.ofChange Rows.objectsArchivesSpec).bare.plain.varTypes Tryz.prog) (ds ++ gs)).all (· ≤ reachBytes) = true) (hsh : W.ShapedOpen Tryz.prog) :
    Calls Tryz.prog 4 args W fun e W' => ∃ v, e = .returned v ∧ Rows.objectsArchivesSpec.post enc Tryz.prog Tryz.f4 false true false false W args v W' := by
  have hW' := hW
  obtain ⟨p, q, hA0, hV, rfl, hfz, hnd⟩ := hW
  have hA : DataW.TrodAll enc Tryz.prog W 0 (fun _ => true) true Tryz.f4.params.toList args.toList ds p := hA0
  rw [Tryz.params4] at hA hval hz
  obtain ⟨v0, vs0, d0, ds0, p0, q0, hargs, rfl, rfl, h0, r0⟩ := trodAll_cons hA
  obtain ⟨v1, vs1, d1, ds1, p1, q1, rfl, rfl, rfl, h1, r1⟩ := trodAll_cons r0
  obtain ⟨rfl, rfl, rfl⟩ := trodAll_nil r1
  obtain rfl : args = #[v0, v1] := by cases args; simp_all
  obtain ⟨rfl, rfl⟩ := trodVars_none hV
  have hr : reachBytes = 140737488351232 := rfl
  obtain ⟨A', fs, c', rfl, hA2, hl2, hx2⟩ := open_files (hval 0 34 v0 rfl rfl) h0 (fun m hm => by have := List.all_eq_true.1 hz m (DataW.weights_mem_each (j := 0) rfl rfl m hm); simpa using this)
  obtain ⟨o, A, c, rfl, hA1, _, hl, hd, hx⟩ := open_obj (hval 1 24 v1 rfl rfl) h1 (fun m hm => by have := List.all_eq_true.1 hz m (DataW.weights_mem_each (j := 1) rfl rfl m hm); simpa using this)
  refine (archives_any fs A' c' o A c W (by omega) (fun f h => by have := hx2 f h; omega) hA2 (by omega) (by omega) (fun x h => by have := hx x h; omega) hA1 (gv_shaped hsh)).mono fun e W' ⟨he, hg⟩ => ?_
  subst he
  exact ⟨_, rfl, post_true rfl (by kernel_rfl) (by kernel_rfl) rfl rfl rfl hW' hg⟩
set_option maxRecDepth 100000 in
theorem lifted_objectsArchives (os : Os) (started : os.Started) (H : Type) (enc : TypeId × Value → H) (F : Stop.Interp) :
    ReturnsInHanded {} Tryz.checked os 4 .any ((OpenSpec.ofChange Rows.objectsArchivesSpec).preRow enc Tryz.prog Tryz.f4 Rows.objectsArchivesRow.domain false Rows.objectsArchivesRow.laid) (((OpenSpec.ofChange Rows.objectsArchivesSpec).at F).post enc Tryz.prog Tryz.f4 false true false false) := by
  obtain ⟨places, hx⟩ := reads_objectsArchives os enc
  refine returnsInHanded_of_row (C := Tryz.checked) (s := OpenSpec.ofChange Rows.objectsArchivesSpec) own started (by kernel_rfl) Tryz.func4
    (witness_row_at (enc := enc) (C := Tryz.checked) false (laidWorld os) #[.slice none 0 0, .agg objZ] rfl (by kernel_rfl) (by kernel_rfl) (by kernel_rfl)
      (OpenSpec.preRow_of_cond 8 hx (by kernel_rfl) (fun k hk => by cases hk) (by kernel_rfl) (laid_met os _))) ?_
  intro W base args ds gs before hval hW _ _ hz _ hsh _
  exact contract_objectsArchives H enc W base args ds gs before hval hW hz hsh
theorem said_objectsArchives : Rows.ObjectsArchivesSaid :=
  OpenClaim.holds_of_cond 4 Tryz.f4 rfl rfl rfl rfl rfl rfl rfl ⟨rfl, rfl, rfl, rfl, rfl⟩ rfl rfl rfl rfl rfl (by kernel_rfl) Tryz.func4 (by kernel_rfl)
    (of_decide_eq_true (by kernel_rfl)) (by unfold Func.isWrapper; first | (rw [if_pos (by decide +kernel)]; kernel_rfl) | (rw [if_neg (by decide +kernel)]; exact ⟨rfl, rfl⟩))
    (fun os started H enc _ F => by rw [OpenClaim.pre_eq_preRow]; exact lifted_objectsArchives os started H enc F)
theorem plain_objectsArchives (f : FuncId) (fn : Func) (hf : Tryz.pinned.checked.prog.funcNamed "modcert/modcertlaw49.ObjectsArchives" = some f) (hfn : Tryz.pinned.checked.prog.funcs[f]? = some fn) :
    false = Tryz.pinned.checked.prog.looks [] ∧ ∀ (j : Nat) t, fn.params[j]? = some t → Tryz.pinned.checked.prog.wantsStandIn t = false := by
  obtain rfl : f = 4 := Option.some.inj ((show Tryz.prog.funcNamed "modcert/modcertlaw49.ObjectsArchives" = some 4 by kernel_rfl).symm.trans hf) |>.symm
  obtain rfl : fn = Tryz.f4 := (Option.some.inj (Tryz.func4.symm.trans hfn)).symm
  refine ⟨by kernel_rfl, fun j t ht => ?_⟩
  rw [Tryz.params4] at ht
  have hm : t ∈ [34, 24] := by simpa using Array.mem_of_getElem? ht
  have hall : ([34, 24].all fun u => !Tryz.prog.wantsStandIn u) = true := by kernel_rfl
  exact (show Tryz.prog.wantsStandIn t = false by simpa using List.all_eq_true.1 hall t hm)
/-- ObjectsArchives: for every files and object the call returns true and leaves its arguments as they were. -/
theorem objectsArchives_card : Rows.ObjectsArchivesCardSaid :=
  Claim7.holds_tied_plain_at .later [] _ _ _ _ said_objectsArchives (fun _ h => by cases h) (by kernel_rfl) (fun _ h => by cases h) objectsArchives_row_tie rfl ⟨rfl, rfl⟩ (by kernel_rfl) rfl plain_objectsArchives (by kernel_rfl)
#print axioms objectsArchives_card
end Go.Proofs.YtfofapggmoibkaaGreatDoor
