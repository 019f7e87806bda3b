/- Archives: FewFiles, walked. -/
import Derived.Test.YtfofapggmoibkaaGreatDoorProg
import Derived.Test.YtfofapggmoibkaaGreatDoorFileX
set_option linter.unusedVariables false
set_option linter.unusedSimpArgs false
namespace Go.Proofs.YtfofapggmoibkaaGreatDoor
open Go Go.RowKit

def sumF (fs : List FileT) : Nat := (fs.map fun f => f.1.size + f.2.size).sum
theorem sumF_snoc (fs : List FileT) (f : FileT) : sumF (fs ++ [f]) = sumF fs + (f.1.size + f.2.size) := by simp [sumF]
theorem sumF_bound (M : Nat) : ∀ l : List FileT, (∀ f ∈ l, f.1.size ≤ M ∧ f.2.size ≤ M) → sumF l ≤ l.length * (2 * M)
  | [], _ => by simp [sumF]
  | x :: l, h => by
    have h1 := sumF_bound M l (fun y hy => h y (by simp [hy]))
    have h2 := h x (by simp)
    have e : sumF (x :: l) = x.1.size + x.2.size + sumF l := by simp [sumF]
    rw [e, List.length_cons, Nat.succ_mul]; omega
theorem sumF_mem {l : List FileT} {f : FileT} (h : f ∈ l) : f.1.size + f.2.size ≤ sumF l := by
  induction l with
  | nil => simp at h
  | cons x l ih =>
    have e : sumF (x :: l) = x.1.size + x.2.size + sumF l := by simp [sumF]
    rcases List.mem_cons.1 h with rfl | h
    · omega
    · have := ih h; omega
/-- the files are few -/
def fewF (fs : List FileT) : Bool := decide (fs.length ≤ 40) && decide (sumF fs ≤ 5000)
set_option maxRecDepth 100000 in
set_option maxHeartbeats 2000000 in
theorem fewFiles_any (fs : List FileT) (A : Option Addr) (c : Nat) (w : World) (hl : fs.length ≤ 9223372036854775807) (hM : ∀ f ∈ fs, f.1.size ≤ 140737488355328 ∧ f.2.size ≤ 140737488355328) (hA : RowAt w A (fcells fs)) :
    Calls Tryz.prog 18 #[.slice A fs.length c] w fun e w' => e = .returned (.bool (fewF fs)) ∧ Ext w w' := by
  have HA := Hd.mk hA; have HM := Hd.mk hM; clear hA hM
  by_cases h40 : fs.length ≤ 40
  · go_enter Tryz.func18, Tryz.ntmps18
    go_wp2
    go_loopw [3, 4] (fun n i wr => ∃ (k m : Nat), i = .int .i64 (k : Int) ∧ k ≤ fs.length ∧ n = .int .i64 (m : Int) ∧ Hd (m = sumF (fs.take k)) ∧ Ext w wr) (fun _ i _ => fs.length - (intOf i).toNat)
    case atStart => exact ⟨0, 0, rfl, by omega, rfl, ⟨rfl⟩, Ext.refl w⟩
    case round =>
      obtain ⟨k, m, rfl, hk, rfl, hm, hext⟩ := hrel
      have hmb : m ≤ 11258999068426240 := by
        have h1 := sumF_bound 140737488355328 (fs.take k) (fun x hx => HM.out x (List.mem_of_mem_take hx))
        rw [hm.out]
        have h2 : (fs.take k).length * (2 * 140737488355328) ≤ 40 * (2 * 140737488355328) := Nat.mul_le_mul_right _ (by rw [List.length_take]; omega)
        omega
      by_cases hlt : k < fs.length
      · have hgk : fs[k]? = some fs[k] := List.getElem?_eq_getElem hlt
        obtain ⟨b, o, hix, hc0, hc1⟩ := file_get (HA.out.ext hext) c k hgk
        obtain ⟨z1, z2⟩ := HM.out _ (List.getElem_mem hlt)
        generalize fs[k] = f at *
        have HG := Hd.mk hgk; clear hgk
        have hd : ∀ w', Ext wr w' → w'.cell? ⟨b, o, none⟩ = some (.string f.1) ∧ w'.cell? ⟨b, o + 1, none⟩ = some (.string f.2) := fun w' hx => ⟨hx.cell hc0, hx.cell hc1⟩
        have HDD := Hd.mk hd; clear hd hc0 hc1
        go_wp2_with fail
        refine wp_region_pi (fun w' => w'.cell? ⟨b, o, none⟩ = some (.string f.1) ∧ w'.cell? ⟨b, o + 1, none⟩ = some (.string f.2)) [(true, 0), (true, 1), (true, 2), (true, 3), (true, 4), (true, 5), (true, 6), (true, 7), (true, 8), (true, 9), (true, 10), (true, 11), (true, 12), (true, 13), (true, 14), (true, 15)] (by kernel_rfl) (by kernel_rfl) (by intro c a d v w h; cases d <;> exact h) ?_
        iterate 16 (refine pi_still rfl (HDD.out _ ((Ext.refl wr).drew)) rfl (fun w' hS => by obtain ⟨s0, s1⟩ := hS; have hi1 := hix w'; go_simp; rfl) ?_; intro K hK; go_simp; refine hK _ _ ?_; clear hK K)
        refine pi_nil ?_
        go_wp2
        go_roundw
        case rel => exact ⟨k + 1, m + f.1.size + f.2.size, by go_num, by omega, vint (by rw [IntWalk.i64_in ((m : Int) + f.1.size) (by omega), IntWalk.i64_in _ (by omega)]; omega), ⟨by rw [take_snoc HG.out, sumF_snoc, hm.out, Nat.add_assoc]⟩, hext.drew⟩
        case measure => simp only [intOf]; omega
      · obtain rfl : k = fs.length := by omega
        have hm2 : m = sumF fs := by have := hm.out; rwa [List.take_length] at this
        have HM2 := Hd.mk hm2; clear hm2 hm
        go_wp2
        go_ret
        exact ⟨congrArg Ending.returned (vbool (by rw [fewF, ← HM2.out, decide_eq_true h40, Bool.true_and, Bool.eq_iff_iff]; simp; omega)), hext⟩
  · have h41 : ¬ (fs.length : Int) ≤ 40 := by omega
    have HF : Hd (fewF fs = false) := ⟨by rw [fewF, decide_eq_false h40]; rfl⟩
    go_enter Tryz.func18, Tryz.ntmps18
    go_wp2
    go_loopw [3, 4] (fun n i wr => ∃ (k : Nat) (m : Int), i = .int .i64 (k : Int) ∧ k ≤ fs.length ∧ n = .int .i64 m ∧ Ext w wr) (fun _ i _ => fs.length - (intOf i).toNat)
    case atStart => exact ⟨0, 0, rfl, by omega, rfl, Ext.refl w⟩
    case round =>
      obtain ⟨k, m, rfl, hk, rfl, hext⟩ := hrel
      by_cases hlt : k < fs.length
      · have hgk : fs[k]? = some fs[k] := List.getElem?_eq_getElem hlt
        obtain ⟨b, o, hix, hc0, hc1⟩ := file_get (HA.out.ext hext) c k hgk
        generalize fs[k] = f at *
        have HG := Hd.mk hgk; clear hgk
        have hd : ∀ w', Ext wr w' → w'.cell? ⟨b, o, none⟩ = some (.string f.1) ∧ w'.cell? ⟨b, o + 1, none⟩ = some (.string f.2) := fun w' hx => ⟨hx.cell hc0, hx.cell hc1⟩
        have HDD := Hd.mk hd; clear hd hc0 hc1
        go_wp2_with fail
        refine wp_region_pi (fun w' => w'.cell? ⟨b, o, none⟩ = some (.string f.1) ∧ w'.cell? ⟨b, o + 1, none⟩ = some (.string f.2)) [(true, 0), (true, 1), (true, 2), (true, 3), (true, 4), (true, 5), (true, 6), (true, 7), (true, 8), (true, 9), (true, 10), (true, 11), (true, 12), (true, 13), (true, 14), (true, 15)] (by kernel_rfl) (by kernel_rfl) (by intro c a d v w h; cases d <;> exact h) ?_
        iterate 16 (refine pi_still rfl (HDD.out _ ((Ext.refl wr).drew)) rfl (fun w' hS => by obtain ⟨s0, s1⟩ := hS; have hi1 := hix w'; go_simp; rfl) ?_; intro K hK; go_simp; refine hK _ _ ?_; clear hK K)
        refine pi_nil ?_
        go_wp2
        go_roundw
        case rel => exact ⟨k + 1, _, by go_num, by omega, rfl, hext.drew⟩
        case measure => simp only [intOf]; omega
      · obtain rfl : k = fs.length := by omega
        go_wp2
        go_ret
        exact ⟨congrArg Ending.returned (vbool HF.out.symm), hext⟩
end Go.Proofs.YtfofapggmoibkaaGreatDoor
