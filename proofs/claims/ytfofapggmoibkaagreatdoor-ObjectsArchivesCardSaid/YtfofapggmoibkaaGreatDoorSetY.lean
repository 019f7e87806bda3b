/- Sets of objects of the program: Closure, walked. -/
import Derived.Test.YtfofapggmoibkaaGreatDoorProg
import Derived.Test.YtfofapggmoibkaaGreatDoorSetX
set_option linter.unusedVariables false
set_option linter.unusedSimpArgs false
namespace Go.Proofs.YtfofapggmoibkaaGreatDoor
open Go Go.RowKit

/-- two rows in different blocks -/
def Apart (v v' : Value) : Prop := v.ownBlock = none ∨ v.ownBlock ≠ v'.ownBlock
theorem own_apart {w w' : World} {B : Nat} {e : TypeId} {n : Nat} {v v' : Value} {xs : List Value} (h : w.ownsRow B e 1 v n xs) (hg : w.grownBy w' v'.ownBlock) (ha : Apart v v') : w'.ownsRow B e 1 v n xs := h.kept hg ha
theorem Apart.fresh {w : World} {B : Nat} {e : TypeId} {n : Nat} {v v1 v1' : Value} {xs : List Value} (h : w.ownsRow B e 1 v n xs) (ha : Apart v v1) (hf : v1'.ownBlock = v1.ownBlock ∨ ∃ b, v1'.ownBlock = some b ∧ w.heap.size ≤ b) : Apart v v1' := by
  rcases hf with hf | ⟨b, hb, hl⟩
  · rcases ha with ha | ha
    · exact .inl ha
    · exact .inr (by rw [hf]; exact ha)
  · cases hv : v.ownBlock with
    | none => exact .inl hv
    | some k =>
      refine .inr ?_
      rw [hv, hb]
      have := (h.lt k hv).2
      intro e; injection e; omega
theorem Apart.symm {v v' : Value} (h : Apart v v') (h' : v'.ownBlock ≠ none ∨ True) : v'.ownBlock = none ∨ v'.ownBlock ≠ v.ownBlock := by
  rcases h with h | h
  · cases hv : v'.ownBlock with
    | none => exact .inl rfl
    | some k => exact .inr (by rw [h]; simp)
  · exact .inr (Ne.symm h)
theorem Apart.sym {v v' : Value} (h : Apart v v') : Apart v' v := h.symm (.inr trivial)
theorem Apart.nil (v : Value) (n c : Nat) : Apart v (.slice none n c) := by
  cases hv : v.ownBlock with
  | none => exact .inl hv
  | some k => exact .inr (by rw [hv]; simp [Value.ownBlock])
theorem own_ext {w w' : World} {B : Nat} {e : TypeId} {n : Nat} {v : Value} {xs : List Value} (h : w.ownsRow B e 1 v n xs) (hx : Ext w w') : w'.ownsRow B e 1 v n xs :=
  h.kept (grown_of_ext hx none) (by cases hv : v.ownBlock <;> simp)
theorem own_map {w w' : World} {B mb : Nat} {e : TypeId} {n : Nat} {v : Value} {xs : List Value} {L : List (ByteArray × Value)} (h : w.ownsRow B e 1 v n xs) (hm : MapIs w mb L) (hb : But w w' mb) : w'.ownsRow B e 1 v n xs := by
  refine h.kept hb ?_
  rcases h.2 with ⟨rfl, _⟩ | ⟨g, cap, cur, rfl, _, hg, _⟩
  · exact .inl rfl
  · refine .inr ?_
    intro e
    simp only [Value.ownBlock, Option.some.injEq] at e
    subst e
    obtain ⟨es, clock, hbk, _⟩ := hm
    rw [hg] at hbk; cases hbk
theorem MapIs.grown {w w' : World} {B mb n : Nat} {e : TypeId} {v : Value} {xs : List Value} {L : List (ByteArray × Value)} (hm : MapIs w mb L) (h : w.ownsRow B e 1 v n xs) (hg : w.grownBy w' v.ownBlock) : MapIs w' mb L := by
  obtain ⟨es, clock, hbk, r⟩ := hm
  refine ⟨es, clock, ?_, r⟩
  rw [hg.block mb (Array.getElem?_eq_some_iff.1 hbk).1 ?_]
  · exact hbk
  · rcases h.2 with ⟨rfl, _⟩ | ⟨g, cap, cur, rfl, _, hgg, _⟩
    · simp [Value.ownBlock]
    · simp only [Value.ownBlock, ne_eq, Option.some.injEq]
      intro e
      subst e
      rw [hbk] at hgg; cases hgg
theorem SlS.keep {w w' : World} {v v' : Value} {l : List ByteArray} (h : SlS w v l) (hg : w.grownBy w' v'.ownBlock) (ha : Apart v v') : SlS w' v l := by
  obtain ⟨A, c, rfl, hc, hA⟩ := h
  refine ⟨A, c, rfl, hc, hA.move fun b off hb hlt => hg.block b hlt ?_⟩
  subst hb
  rcases ha with ha | ha
  · simp [Value.ownBlock] at ha
  · simpa [Value.ownBlock] using ha
def lenS : Value → Nat | .slice _ n _ => n | _ => 0
theorem own_len {w : World} {B : Nat} {e : TypeId} {n : Nat} {v : Value} {xs : List Value} (h : w.ownsRow B e 1 v n xs) : lenS v = n := by
  rcases h.2 with ⟨rfl, rfl⟩ | ⟨g, cap, cur, rfl, _⟩ <;> rfl
def seenM (l : List ByteArray) : List (ByteArray × Value) := l.map fun d => (d, .bool true)
theorem seen_in {l : List ByteArray} {x : ByteArray} (h : x ∈ l) : getM (seenM l) x = some (.bool true) := by
  cases hg : getM (seenM l) x with
  | none => exact absurd rfl (getM_none.1 hg (x, .bool true) (List.mem_map.2 ⟨x, h, rfl⟩))
  | some v =>
    obtain ⟨y, _, hy⟩ := List.mem_map.1 (getM_mem hg)
    injection hy with h1 h2
    rw [← h2]
theorem seen_out {l : List ByteArray} {x : ByteArray} (h : x ∉ l) : getM (seenM l) x = none := by
  rw [getM_none]
  intro p hp
  obtain ⟨y, hy, rfl⟩ := List.mem_map.1 hp
  intro e
  simp only at e
  subst e; exact h hy
/-- what Closure hands back -/
def ClosPost (w : World) (S : List (ByteArray × Obj)) (roots : List ByteArray) (e : Ending) (w' : World) : Prop :=
  ∃ fi fo v1 v2, CloSpec S roots fi fo ∧ e = .returned (.tuple #[v1, v2]) ∧ SlS w' v1 (sortB fi) ∧ SlS w' v2 (sortB fo) ∧ Ext w w' ∧ fi.length ≤ S.length ∧ fo.length ≤ roots.length + 65 * S.length
set_option maxRecDepth 100000 in
set_option maxHeartbeats 8000000 in
theorem closure_any (sb mb : Nat) (S : List (ByteArray × Obj)) (roots : List ByteArray) (A : Option Addr) (c : Nat) (w : World) (hS : SetAt w sb mb S) (hz : ∀ p ∈ S, p.2.refs.length ≤ 64) (hn : S.length ≤ 1000) (hl : roots.length ≤ 10000) (hA : StrsAt w A roots) :
    Calls Tryz.prog 26 #[.pointer (some ⟨sb, 0, none⟩), .slice A roots.length c] w (ClosPost w S roots) := by
  have hmm := @run_makeMap Tryz.prog
  have HX0 := Hd.mk ((Ext.refl w).alloc (.map #[] 0))
  have HM0 := Hd.mk (MapIs.made w)
  have HS := Hd.mk hS; have HA := Hd.mk hA; have HZ := Hd.mk hz
  clear hS hA hz
  have hlook : ∀ w2 d, Ext w w2 → ∃ b x, (Instr.lookup 94 (.map (some mb)) (.string d) true).run Tryz.prog w2 = .ok (.tuple #[.agg x, .bool b]) w2 ∧ w2.cell? ⟨sb, 0, none⟩ = some (.map (some mb)) ∧ Hd (x.size = 3 ∧ x.all (·.oneCell') = true ∧ ((b = false ∧ getS S d = none) ∨ (b = true ∧ ∃ o A c, getS S d = some o ∧ x = objC o A c ∧ StrsAt w A o.refs ∧ o.refs.length ≤ 64))) := by
    intro w2 d hx
    obtain ⟨h1, L, h2, h3, rfl⟩ := HS.out
    have hlk := (h2.ext hx).look Tryz.underlying94 Tryz.underlying9 (z := .agg objZ) (e := 24) (by rfl) d
    have hc := cell_of (hx.obj h1) (j := 0) (v := .map (some mb)) rfl
    rcases getS_ent L d with ⟨e1, e2⟩ | ⟨q, hq, hqd, e1, e2⟩
    · rw [e1] at hlk; exact ⟨_, _, hlk, hc, ⟨rfl, objZ_one, .inl ⟨rfl, e2⟩⟩⟩
    · rw [e1] at hlk; exact ⟨_, _, hlk, hc, ⟨rfl, objC_one _ _ _, .inr ⟨rfl, q.2.1, q.2.2.1, q.2.2.2, e2, rfl, h3 q hq, HZ.out _ (List.mem_map.2 ⟨q, hq, rfl⟩)⟩⟩⟩
  have HLK := Hd.mk hlook; clear hlook
  go_enter Tryz.func26, Tryz.ntmps26
  go_wp2_with fail
  refine (cloneS_any roots A c _ (by omega) (HA.out.ext HX0.out)).mono ?_; rintro e w1 ⟨v, rfl, hown, hx1⟩
  have hown : w1.ownsRow w.heap.size 9 1 v roots.length (strs roots) := by
    refine ⟨hown.1, ?_⟩
    rcases hown.2 with h | ⟨g, cap, cur, h1, h2, h3⟩
    · exact .inl h
    · exact .inr ⟨g, cap, cur, h1, by simp at h2; omega, h3⟩
  have HX1 := Hd.mk (HX0.out.trans hx1); have HM1 := Hd.mk (HM0.out.ext hx1); have HO1 := Hd.mk hown
  clear hx1 hown
  go_wp2_with fail
  go_loopw [7, 8, 9] (fun v7 v8 v9 wr => ∃ (work found missing seen : List ByteArray), wr.ownsRow w.heap.size 9 1 v7 work.length (strs work) ∧ wr.ownsRow w.heap.size 9 1 v8 found.length (strs found) ∧ wr.ownsRow w.heap.size 9 1 v9 missing.length (strs missing) ∧ MapIs wr w.heap.size (seenM seen) ∧ Ext w wr ∧ Hd (Apart v7 v8 ∧ Apart v7 v9 ∧ Apart v8 v9) ∧ Hd (CloInv S roots seen work found missing)) (fun v7 v8 _ _ => (S.length - lenS v8) * 100 + lenS v7)
  case atStart => exact ⟨roots, [], [], [], HO1.out, own_nil _ _ _ _, own_nil _ _ _ _, HM1.out, HX1.out, ⟨Apart.nil _ _ _, Apart.nil _ _ _, .inl rfl⟩, ⟨CloInv.start S roots⟩⟩
  case round =>
    clear HX1 HM1 HO1
    obtain ⟨work, found, missing, seen, h7, h8, h9, hm, hext, hap, hinv⟩ := hrel
    have hfl := keys_found hinv.out.fnd hinv.out.inS
    have hcnt := hinv.out.cnt
    rcases List.eq_nil_or_concat work with rfl | ⟨wk, x, rfl⟩
    · obtain ⟨A7, c7, rfl, _⟩ := own_form h7
      have H8 := Hd.mk h8; have H9 := Hd.mk h9; clear h7 h8 h9 hm
      go_wp2_with fail
      refine (sortS_any found _ _ _ (by omega) H8.out).mono ?_; rintro e w2 ⟨rfl, s8, g2⟩
      have H92 := Hd.mk (own_apart H9.out g2 hap.out.2.2.sym)
      have HX2 := Hd.mk (hext.grown g2 (own_base H8.out)); have S8 := Hd.mk s8; clear s8 g2
      simp only [List.length_nil] at hcnt
      go_wp2_with fail
      refine (sortS_any missing _ _ _ (by omega) H92.out).mono ?_; rintro e w3 ⟨rfl, s9, g3⟩
      have S83 := Hd.mk (S8.out.keep g3 hap.out.2.2); have S9 := Hd.mk s9
      have HX3 := Hd.mk (HX2.out.grown g3 (own_base H92.out)); clear s9 g3
      go_wp2
      go_ret2
      exact ⟨found, missing, _, _, hinv.out.done, rfl, S83.out, S9.out, HX3.out, hfl, by omega⟩
    · rw [List.concat_eq_append] at *
      rw [List.length_append, List.length_singleton] at h7 hcnt
      rw [show strs (wk ++ [x]) = strs wk ++ [.string x] by simp [strs]] at h7
      obtain ⟨g, cap, rfl, _⟩ := h7.form (by omega)
      have hcx : wr.cell? ⟨g, wk.length, none⟩ = some (.string x) := own_cell h7 (by simp [strs])
      have hpop := own_pop h7
      have hb0 := hext.size
      have hcapn : (wk.length : Int) ≤ (cap : Int) := by
        rcases h7.2 with ⟨h, _⟩ | ⟨g', cap', cur, h, _, _, hnc, _⟩
        · cases h
        · injection h with h1 h2 h3; omega
      have ha7 : Apart (.slice (some ⟨g, 0, none⟩) wk.length cap) u8 ∧ Apart (.slice (some ⟨g, 0, none⟩) wk.length cap) u9 := ⟨hap.out.1, hap.out.2.1⟩
      by_cases hx : x ∈ seen
      · have hlk1 := hm.look1 Tryz.underlying63 Tryz.underlying9 (z := .bool false) (e := 4) (by rfl) x
        rw [seen_in hx] at hlk1
        simp only [Option.getD_some] at hlk1
        have HX := Hd.mk hx; have H7 := Hd.mk hpop; have H8 := Hd.mk h8; have H9 := Hd.mk h9; have HM := Hd.mk hm; have HA7 := Hd.mk ha7
        clear hx h7 h8 h9 hm hpop ha7
        go_wp2_with fail
        go_roundw
        case rel => exact ⟨wk, found, missing, seen, H7.out, H8.out, H9.out, HM.out, hext, ⟨HA7.out.1, HA7.out.2, hap.out.2.2⟩, ⟨hinv.out.dup HX.out⟩⟩
        case measure => simp only [lenS, List.length_append, List.length_singleton]; omega
      · have hlk1 := hm.look1 Tryz.underlying63 Tryz.underlying9 (z := .bool false) (e := 4) (by rfl) x
        have hsn := seen_out hx
        rw [hsn] at hlk1
        simp only [Option.getD_none] at hlk1
        cases hg : getS S x with
        | none =>
          have hmb : missing.length ≤ 1000000 := by omega
          have HX := Hd.mk hx; have H7 := Hd.mk hpop; have H8 := Hd.mk h8; have H9 := Hd.mk h9; have HM := Hd.mk hm; have HA7 := Hd.mk ha7; have HG := Hd.mk hg; have HSN := Hd.mk hsn
          clear hx h7 h8 h9 hm hpop ha7 hg hsn
          go_wp2_with (first
            | (refine mapPut HM.out Tryz.underlying63 Tryz.underlying9 x (.bool true) ?_ ?_ ?_ ?_ ?_; exact .inl HSN.out; rfl; rfl; rfl; intro w2 hm2 hb2; rw [if_pos HSN.out] at hm2; have H72 := Hd.mk (own_map H7.out HM.out hb2); have H82 := Hd.mk (own_map H8.out HM.out hb2); have H92 := Hd.mk (own_map H9.out HM.out hb2); have HX2 := Hd.mk (But.ext hext hb2 (Nat.le_refl _)); have HM2 := Hd.mk hm2; clear hm2 hb2; obtain ⟨b, y, hlk, hcs, hby⟩ := HLK.out w2 x HX2.out; obtain rfl : b = false := by rcases hby.out.2.2 with h | ⟨_, o, _, _, h, _⟩; exact h.1; rw [HG.out] at h; cases h)
            | (refine boxRow 24 objZ ?_ y (n := 64) (i := 11) (k := 42) ?_ ?_ ?_ ?_ ?_ ?_; exact info_obj; rfl; decide; rfl; exact hby.out.1.symm; exact hby.out.2.1; intro w3 h3 hx3 hz3; have H73 := Hd.mk (own_ext H72.out hx3); have H83 := Hd.mk (own_ext H82.out hx3); have h93 := own_ext H92.out hx3; have HM3 := Hd.mk (HM2.out.ext hx3); have HX3 := Hd.mk (HX2.out.trans hx3); have hb3 := HX3.out.size; clear h3 hx3 hz3 hlk hcs)
            | (at_builtin; go_must (refine app1 w.heap.size rfl _ _ 22 9 (.string ⟨#[]⟩) 16 rfl Tryz.underlying22 info_str rfl h93 rfl rfl rfl hb3 hmb (by decide) ?_); intro v1 w4 hown4 hg4 hat4))
          go_roundw
          case rel =>
            refine ⟨wk, found, missing ++ [x], seen ++ [x], own_apart H73.out hg4 HA7.out.2, own_apart H83.out hg4 hap.out.2.2, ?_, ?_, HX3.out.grown hg4 (own_base h93), ⟨HA7.out.1, ?_, ?_⟩, ⟨hinv.out.miss HX.out HG.out⟩⟩
            · rw [strs_snoc] at hown4
              simpa using hown4
            · have := HM3.out.grown h93 hg4
              simpa [seenM] using this
            · exact HA7.out.2.fresh H73.out hat4
            · exact hap.out.2.2.fresh H83.out hat4
          case measure => simp only [lenS, List.length_append, List.length_singleton]; omega
        | some o =>
          have hfb : found.length ≤ 1000000 := by omega
          have hnf : (found ++ [x]).Nodup := by
            rw [List.nodup_append]
            refine ⟨hinv.out.fnd, by simp, fun a ha b hb => ?_⟩
            rw [List.mem_singleton] at hb
            subst hb
            intro e; subst e
            exact hx ((hinv.out.mem _).2 (.inl ha))
          have hinf : ∀ y ∈ found ++ [x], (getS S y).isSome = true := by
            intro y hy
            rw [mem_snoc] at hy
            rcases hy with hy | rfl
            · exact hinv.out.inS y hy
            · rw [hg]; rfl
          have hf1 := keys_found hnf hinf
          clear hnf hinf
          rw [List.length_append, List.length_singleton] at hf1
          have HX := Hd.mk hx; have H7 := Hd.mk hpop; have H8 := Hd.mk h8; have H9 := Hd.mk h9; have HM := Hd.mk hm; have HA7 := Hd.mk ha7; have HG := Hd.mk hg; have HSN := Hd.mk hsn
          clear hx h7 h8 h9 hm hpop ha7 hg hsn
          obtain ⟨A2, c2, hA2, hr64, hlk2⟩ : ∃ A2 c2, StrsAt w A2 o.refs ∧ o.refs.length ≤ 64 ∧ ∀ w2, Ext w w2 → (Instr.lookup 94 (.map (some mb)) (.string x) true).run Tryz.prog w2 = .ok (.tuple #[.agg (objC o A2 c2), .bool true]) w2 ∧ w2.cell? ⟨sb, 0, none⟩ = some (.map (some mb)) := by
            obtain ⟨h1, L, h2, h3, rfl⟩ := HS.out
            rcases getS_ent L x with ⟨e1, e2⟩ | ⟨q, hq, hqd, e1, e2⟩
            · rw [HG.out] at e2; cases e2
            · have e3 : q.2.1 = o := by rw [HG.out] at e2; injection e2 with e2; exact e2.symm
              refine ⟨q.2.2.1, q.2.2.2, by rw [← e3]; exact h3 q hq, by rw [← e3]; exact HZ.out _ (List.mem_map.2 ⟨q, hq, rfl⟩), fun w2 hx => ?_⟩
              have hlk := (h2.ext hx).look Tryz.underlying94 Tryz.underlying9 (z := .agg objZ) (e := 24) (by rfl) x
              rw [e1, e3] at hlk
              exact ⟨hlk, cell_of (hx.obj h1) (j := 0) (v := .map (some mb)) rfl⟩
          have HA2 := Hd.mk hA2; have HL2 := Hd.mk hlk2; clear hA2 hlk2
          have hwl : wk.length + o.refs.length ≤ 1000000 := by omega
          go_wp2_with (first
            | (refine mapPut HM.out Tryz.underlying63 Tryz.underlying9 x (.bool true) ?_ ?_ ?_ ?_ ?_; exact .inl HSN.out; rfl; rfl; rfl; intro w2 hm2 hb2; rw [if_pos HSN.out] at hm2; have H72 := Hd.mk (own_map H7.out HM.out hb2); have H82 := Hd.mk (own_map H8.out HM.out hb2); have H92 := Hd.mk (own_map H9.out HM.out hb2); have HX2 := Hd.mk (But.ext hext hb2 (Nat.le_refl _)); have HM2 := Hd.mk hm2; clear hm2 hb2; obtain ⟨hlk, hcs⟩ := HL2.out w2 HX2.out)
            | (refine boxRow 24 objZ ?_ (objC o A2 c2) (n := 64) (i := 11) (k := 42) ?_ ?_ ?_ ?_ ?_ ?_; exact info_obj; rfl; decide; rfl; rfl; exact objC_one _ _ _; intro w3 h3 hx3 hz3; have HB3 := Hd.mk h3; have H73 := Hd.mk (own_ext H72.out hx3); have h83 := own_ext H82.out hx3; have H93 := Hd.mk (own_ext H92.out hx3); have HM3 := Hd.mk (HM2.out.ext hx3); have HX3 := Hd.mk (HX2.out.trans hx3); have hb3 := HX3.out.size; have HLT := Hd.mk (show ∀ k, u8.ownBlock = some k → k < w2.heap.size from fun k hk => (H82.out.lt k hk).2); clear h3 hx3 hz3 hlk hcs)
            | (at_builtin; refine app1 w.heap.size rfl _ _ 22 9 (.string ⟨#[]⟩) 16 rfl Tryz.underlying22 info_str rfl h83 rfl rfl rfl hb3 hfb (by decide) ?_; intro v1 w4 hown4 hg4 hat4; have HX4 := Hd.mk (HX3.out.grown hg4 (own_base h83)); have HB4 := Hd.mk ((hg4.block w2.heap.size (Array.getElem?_eq_some_iff.1 HB3.out).1 (by intro e; have := HLT.out _ e.symm; omega)).trans HB3.out); have q1 := cell_of HB4.out (j := 1) (v := .slice A2 o.refs.length c2) rfl; have h74 := own_apart H73.out hg4 HA7.out.1; have hb4 := HX4.out.size; have H83 := Hd.mk h83; clear h83)
            | (at_builtin; refine appS w.heap.size _ _ 22 9 (.string ⟨#[]⟩) Tryz.underlying22 info_str rfl h74 (HA2.out.ext HX4.out) rfl rfl hb4 hwl ?_; intro v2 w5 hown5 hg5 hat5; have H74 := Hd.mk h74; clear h74))
          go_roundw
          case rel =>
            have h75 : Apart v2 v1 := by
              rcases hat5 with h | ⟨b, h, hlb⟩
              · exact (show Apart v2 v1 from by
                  have := HA7.out.1.fresh H73.out hat4
                  rcases this with h1 | h1
                  · exact .inl (h.trans h1)
                  · exact .inr (by rw [h]; exact h1))
              · refine .inr ?_
                rw [h]
                intro e
                have := (hown4.lt b e.symm).2
                omega
            have h79 : Apart v2 u9 := by
              rcases hat5 with h | ⟨b, h, hlb⟩
              · rcases HA7.out.2 with h1 | h1
                · exact .inl (h.trans h1)
                · exact .inr (by rw [h]; exact h1)
              · refine .inr ?_
                rw [h]
                intro e
                have := (H93.out.lt b e.symm).2
                have := hg4.size
                omega
            have h89 : Apart v1 u9 := by
              rcases hat4 with h | ⟨b, h, hlb⟩
              · rcases hap.out.2.2 with h1 | h1
                · exact .inl (h.trans h1)
                · exact .inr (by rw [h]; exact h1)
              · refine .inr ?_
                rw [h]
                intro e
                have := (H93.out.lt b e.symm).2
                omega
            have a1 : Apart v1 (.slice (some ⟨g, 0, none⟩) wk.length cap) := ((HA7.out.1).fresh H73.out hat4).sym
            refine ⟨wk ++ o.refs, found ++ [x], missing, seen ++ [x], ?_, ?_, ?_, ?_, HX4.out.grown hg5 (own_base H74.out), ⟨h75, h79, h89⟩, ⟨hinv.out.hit HX.out HG.out hr64⟩⟩
            · have e : strs (wk ++ o.refs) = strs wk ++ strs o.refs := by simp [strs]
              rw [List.length_append, e]; exact hown5
            · rw [strs_snoc] at hown4
              have := own_apart hown4 hg5 a1
              simpa using this
            · exact own_apart (own_apart H93.out hg4 hap.out.2.2.sym) hg5 HA7.out.2.sym
            · have := (HM3.out.grown H83.out hg4).grown H74.out hg5
              simpa [seenM] using this
          case measure =>
            have e1 := own_len hown5
            have e2 := own_len hown4
            have e3 := own_len H83.out
            show (S.length - lenS v1) * 100 + lenS v2 < (S.length - lenS u8) * 100 + (wk.length + 1)
            rw [e1, e2, e3]
            omega
end Go.Proofs.YtfofapggmoibkaaGreatDoor
