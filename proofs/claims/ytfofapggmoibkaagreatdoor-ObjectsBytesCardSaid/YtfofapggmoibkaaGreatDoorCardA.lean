/- The card of ObjectsBytes. -/
import Derived.Test.YtfofapggmoibkaaGreatDoorOpenX
import Derived.Test.YtfofapggmoibkaaGreatDoorLawX
import Derived.LaidMore
set_option linter.unusedVariables false
set_option linter.unusedSimpArgs false
namespace Go.Proofs.YtfofapggmoibkaaGreatDoor
open Go Go.RowKit Go.ChangeShapes Go.WideShapes Go.ChangeAt
open Go.ChangeMaps (open_string shut_string)

def setCells (cs : Array Value) : Go.Obj → Go.Obj
  | .cells _ t frozen => .cells cs t frozen
  | o => o
def accC : Array Value := #[.int .u8 128, .int .u8 191, .int .u8 160, .int .u8 191, .int .u8 128, .int .u8 159, .int .u8 144, .int .u8 191, .int .u8 128, .int .u8 143, .int .u8 0, .int .u8 0, .int .u8 0, .int .u8 0, .int .u8 0, .int .u8 0, .int .u8 0, .int .u8 0, .int .u8 0, .int .u8 0, .int .u8 0, .int .u8 0, .int .u8 0, .int .u8 0, .int .u8 0, .int .u8 0, .int .u8 0, .int .u8 0, .int .u8 0, .int .u8 0, .int .u8 0, .int .u8 0]
def firstC : Array Value := (Go.Pinned.utf8FirstZ.map fun z : Nat => Value.int .u8 (Int.ofNat z)).toArray
noncomputable def heapW (os : Os) : Array Go.Obj := ((World.holding Tryz.prog os ⟨#[], #[], []⟩).heap.modify 1 (setCells firstC)).modify 2 (setCells accC)
/-- A world for the witness: the settled one, the two tables holding what the rows list. -/
noncomputable def laidWorld (os : Os) : World := { World.holding Tryz.prog os ⟨#[], #[], []⟩ with heap := heapW os }
set_option maxRecDepth 100000 in
theorem laid_met (os : Os) (args : Array Value) : laidMet Tryz.prog Rows.objectsBytesRow.laid ((laidWorld os).forCall (fun _ _ => 0) ⟨#[], args, []⟩).memory :=
  laidMet_of_run' 8 (by kernel_rfl) (by kernel_rfl)
theorem reads_bytes (os : Os) {H : Type} (enc : TypeId × Value → H) : ∃ places, DataW.whole enc Tryz.prog ((laidWorld os).forCall (fun _ _ => 0) ⟨#[], #[.agg objZ, .string .empty], []⟩).memory Tryz.f3.params.toList Rows.objectsBytesSpec.vars false #[Value.agg objZ, Value.string .empty].toList 8 = some ([.agg [.lit (.int .i64 0), .nil, .lit (.string [])], .lit (.string [])], [], places) :=
  ⟨[], by kernel_rfl⟩
set_option maxRecDepth 100000 in
theorem contract_bytes (H : Type) (enc : TypeId × Value → H) (W : World) (base : Nat) (args : Array Value) (ds gs : List (DataW H)) (before : List MemPlace)
    (hval : ∀ (j : Nat) t v, Tryz.f3.params[j]? = some t → args[j]? = some v → Value.okWide Tryz.prog W .any base t v)
    (hW : DataW.Whole enc Tryz.prog Tryz.f3.params.toList Rows.objectsBytesSpec.vars false W args.toList ds gs before)
    (hz : (DataW.weightsEach Tryz.prog (Tryz.f3.params.toList ++ (OpenSpec.ofChange Rows.objectsBytesSpec).bare.plain.varTypes Tryz.prog) (ds ++ gs)).all (· ≤ reachBytes) = true) (hsh : W.ShapedOpen Tryz.prog) :
    Calls Tryz.prog 3 args W fun e W' => ∃ v, e = .returned v ∧ Rows.objectsBytesSpec.post enc Tryz.prog Tryz.f3 false true false false W args v W' := by
  have hW' := hW
  obtain ⟨p, q, hA0, hV, rfl, hfz, hnd⟩ := hW
  have hA : DataW.TrodAll enc Tryz.prog W 0 (fun _ => true) true Tryz.f3.params.toList args.toList ds p := hA0
  rw [Tryz.params3] at hA hval hz
  obtain ⟨v0, vs0, d0, ds0, p0, q0, hargs, rfl, rfl, h0, r0⟩ := trodAll_cons hA
  obtain ⟨v1, vs1, d1, ds1, p1, q1, rfl, rfl, rfl, h1, r1⟩ := trodAll_cons r0
  obtain ⟨rfl, rfl, rfl⟩ := trodAll_nil r1
  obtain rfl : args = #[v0, v1] := by cases args; simp_all
  obtain ⟨rfl, rfl⟩ := trodVars_none hV
  obtain ⟨o, A, c, rfl, hA1, hc, hl, hd, hx⟩ := open_obj (hval 0 24 v0 rfl rfl) h0 (fun m hm => by
    have := List.all_eq_true.1 hz m (DataW.weights_mem_each (j := 0) rfl rfl m hm)
    simpa using this)
  obtain ⟨s, rfl, rfl, rfl, hmax⟩ := open_string Tryz.underlying9 (hval 1 9 v1 rfl rfl) h1
  have hr : reachBytes = 140737488351232 := rfl
  have hs : s.size ≤ reachBytes := by
    have := sized_string hz (j := 1) (bytes := s.data.toList) rfl rfl
    rwa [data_len] at this
  refine (bytes_any o A c s W (by omega) (by omega) (by omega) (fun x h => by have := hx x h; omega) hA1 (gv_shaped hsh)).mono fun e W' ⟨he, hg⟩ => ?_
  subst he
  exact ⟨_, rfl, post_true rfl (by kernel_rfl) (by kernel_rfl) rfl rfl rfl hW' hg⟩
set_option maxRecDepth 100000 in
theorem lifted_bytes (os : Os) (started : os.Started) (H : Type) (enc : TypeId × Value → H) (F : Stop.Interp) :
    ReturnsInHanded {} Tryz.checked os 3 .any ((OpenSpec.ofChange Rows.objectsBytesSpec).preRow enc Tryz.prog Tryz.f3 Rows.objectsBytesRow.domain false Rows.objectsBytesRow.laid) (((OpenSpec.ofChange Rows.objectsBytesSpec).at F).post enc Tryz.prog Tryz.f3 false true false false) := by
  obtain ⟨places, hx⟩ := reads_bytes os enc
  refine returnsInHanded_of_row (C := Tryz.checked) (s := OpenSpec.ofChange Rows.objectsBytesSpec) own started (by kernel_rfl) Tryz.func3
    (witness_row_at (enc := enc) (C := Tryz.checked) false (laidWorld os) #[.agg objZ, .string .empty] rfl (by kernel_rfl) (by kernel_rfl) (by kernel_rfl)
      (OpenSpec.preRow_of_cond 8 hx (by kernel_rfl) (fun k hk => by cases hk) (by kernel_rfl) (laid_met os _))) ?_
  intro W base args ds gs before hval hW _ _ hz _ hsh _
  exact contract_bytes H enc W base args ds gs before hval hW hz hsh
theorem said_bytes : Rows.ObjectsBytesSaid :=
  OpenClaim.holds_of_cond 3 Tryz.f3 rfl rfl rfl rfl rfl rfl rfl ⟨rfl, rfl, rfl, rfl, rfl⟩ rfl rfl rfl rfl rfl (by kernel_rfl) Tryz.func3 (by kernel_rfl)
    (of_decide_eq_true (by kernel_rfl)) (by unfold Func.isWrapper; first | (rw [if_pos (by decide +kernel)]; kernel_rfl) | (rw [if_neg (by decide +kernel)]; exact ⟨rfl, rfl⟩))
    (fun os started H enc _ F => by rw [OpenClaim.pre_eq_preRow]; exact lifted_bytes os started H enc F)
theorem plain_bytes (f : FuncId) (fn : Func) (hf : Tryz.pinned.checked.prog.funcNamed "modcert/modcertlaw49.ObjectsBytes" = some f) (hfn : Tryz.pinned.checked.prog.funcs[f]? = some fn) :
    false = Tryz.pinned.checked.prog.looks [] ∧ ∀ (j : Nat) t, fn.params[j]? = some t → Tryz.pinned.checked.prog.wantsStandIn t = false := by
  obtain rfl : f = 3 := Option.some.inj ((show Tryz.prog.funcNamed "modcert/modcertlaw49.ObjectsBytes" = some 3 by kernel_rfl).symm.trans hf) |>.symm
  obtain rfl : fn = Tryz.f3 := (Option.some.inj (Tryz.func3.symm.trans hfn)).symm
  refine ⟨by kernel_rfl, fun j t ht => ?_⟩
  rw [Tryz.params3] at ht
  have hm : t ∈ [24, 9] := by simpa using Array.mem_of_getElem? ht
  have hall : ([24, 9].all fun u => !Tryz.prog.wantsStandIn u) = true := by kernel_rfl
  exact (show Tryz.prog.wantsStandIn t = false by simpa using List.all_eq_true.1 hall t hm)
/-- ObjectsBytes: for every object and string the call returns true and leaves its arguments as they were; the two tables of package utf8 are tied to the program's text. -/
theorem objectsBytes_card : Rows.ObjectsBytesCardSaid :=
  Claim7.holds_tied_plain_at .later [] _ _ _ _ said_bytes (fun _ h => by cases h) (by kernel_rfl) (fun _ h => by cases h) objectsBytes_row_tie rfl ⟨rfl, rfl⟩ (by kernel_rfl) rfl plain_bytes (by kernel_rfl)
#print axioms objectsBytes_card
end Go.Proofs.YtfofapggmoibkaaGreatDoor
