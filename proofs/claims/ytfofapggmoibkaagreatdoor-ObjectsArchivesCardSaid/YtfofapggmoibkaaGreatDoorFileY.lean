/- Archives: slices.Equal of files, walked. Archives: what Files reads, plain. Archives: append of one file to an own row. Archives: reading what was written gives it; plain. Archives: Files, walked (begun: the refusals by valid and kind). Archives: Files, walked: the good case. -/
import Derived.Test.YtfofapggmoibkaaGreatDoorProg
import Derived.Test.YtfofapggmoibkaaGreatDoorFileX
import Derived.Test.YtfofapggmoibkaaGreatDoorObjX
import Derived.Test.YtfofapggmoibkaaGreatDoorPureX
set_option linter.unusedVariables false
set_option linter.unusedSimpArgs false
namespace Go.Proofs.YtfofapggmoibkaaGreatDoor
open Go Go.RowKit

set_option maxRecDepth 100000 in
set_option maxHeartbeats 2000000 in
theorem equalF_any (fs gs : List FileT) (A A' : Option Addr) (c c' : Nat) (w : World) (hn : fs.length ≤ 1000000) (hn' : gs.length ≤ 1000000) (hA : RowAt w A (fcells fs)) (hA' : RowAt w A' (fcells gs)) :
    Calls Tryz.prog 23 #[.slice A fs.length c, .slice A' gs.length c'] w fun e w' => e = .returned (.bool (decide (fs = gs))) ∧ Ext w w' := by
  have HA := Hd.mk hA; have HA' := Hd.mk hA'; clear hA hA'
  by_cases hlen : fs.length = gs.length
  · have hli : ¬ (fs.length : Int) ≠ (gs.length : Int) := by omega
    have hlb : ((fs.length : Int) == (gs.length : Int)) = true := by simp [hlen]
    have hlc : ((fs.length : Int) != (gs.length : Int)) = false := by simp [hlen]
    have HL := Hd.mk hlen; clear hlen hli
    go_enter Tryz.func23, Tryz.ntmps23
    go_wp2
    go_loopw [13] (fun i wr => ∃ (k : Nat), i = .int .i64 (k : Int) ∧ k ≤ fs.length ∧ Hd (∀ j < k, fs[j]? = gs[j]?) ∧ Ext w wr) (fun i _ => fs.length - (intOf i).toNat)
    case atStart => exact ⟨0, rfl, by omega, ⟨fun j h => by omega⟩, Ext.refl w⟩
    case round =>
      obtain ⟨k, rfl, hk, hall, hext⟩ := hrel
      by_cases hlt : k < fs.length
      · have hg1 : fs[k]? = some fs[k] := List.getElem?_eq_getElem hlt
        have hlt2 : k < gs.length := by have := HL.out; omega
        have hg2 : gs[k]? = some gs[k] := List.getElem?_eq_getElem hlt2
        obtain ⟨b1, o1, i1, c10, c11⟩ := file_get (HA.out.ext hext) c k hg1
        obtain ⟨b2, o2, i2, c20, c21⟩ := file_get (HA'.out.ext hext) c' k hg2
        generalize fs[k] = f at *
        generalize gs[k] = g at *
        have HG1 := Hd.mk hg1; have HG2 := Hd.mk hg2; clear hg1 hg2
        have hd : ∀ w', Ext wr w' → w'.cell? ⟨b1, o1, none⟩ = some (.string f.1) ∧ w'.cell? ⟨b1, o1 + 1, none⟩ = some (.string f.2) ∧ w'.cell? ⟨b2, o2, none⟩ = some (.string g.1) ∧ w'.cell? ⟨b2, o2 + 1, none⟩ = some (.string g.2) := fun w' hx => ⟨hx.cell c10, hx.cell c11, hx.cell c20, hx.cell c21⟩
        have HDD := Hd.mk hd; clear hd c10 c11 c20 c21
        have hcases : ∃ b d, (f.1.toList == g.1.toList) = b ∧ (f.2.toList == g.2.toList) = d ∧ Hd ((b && d) = decide (f = g)) := by
          refine ⟨_, _, rfl, rfl, ⟨?_⟩⟩
          by_cases h1 : f.1 = g.1
          · by_cases h2 : f.2 = g.2
            · rw [str_t h1, str_t h2, decide_eq_true (Prod.ext h1 h2)]; rfl
            · rw [str_f h2, decide_eq_false (by intro e; exact h2 (by rw [e]))]; simp
          · rw [str_f h1, decide_eq_false (by intro e; exact h1 (by rw [e]))]; rfl
        obtain ⟨b, d, hb, hd, hbd⟩ := hcases
        cases b with
        | false =>
          go_wp2_with fail
          refine wp_region_pi (fun w' => w'.cell? ⟨b1, o1, none⟩ = some (.string f.1) ∧ w'.cell? ⟨b1, o1 + 1, none⟩ = some (.string f.2) ∧ w'.cell? ⟨b2, o2, none⟩ = some (.string g.1) ∧ w'.cell? ⟨b2, o2 + 1, none⟩ = some (.string g.2)) [(true, 0), (true, 1), (true, 2), (true, 3), (true, 4), (true, 5), (true, 6), (true, 7), (true, 8)] (by kernel_rfl) (by kernel_rfl) (by intro c a d v w h; cases d <;> exact h) ?_
          iterate 8 (refine pi_still rfl (HDD.out _ ((Ext.refl wr).drew)) rfl (fun w' hS => by obtain ⟨s0, s1, s2, s3⟩ := hS; have hi1 := i1 w'; have hi2 := i2 w'; go_simp; rfl) ?_; intro K hK; go_simp; refine hK _ _ ?_; clear hK K)
          refine pi_still rfl (HDD.out _ ((Ext.refl wr).drew)) rfl (fun w' hS => by go_simp; rfl) ?_; intro K hK; go_simp; refine hK _ _ ?_; clear hK K
          refine pi_nil ?_
          go_wp2
          go_ret
          exact ⟨congrArg Ending.returned (vbool (by
            rw [eq_comm, decide_eq_false_iff_not]
            intro e
            have e1 := HG1.out; have e2 := HG2.out
            rw [e, e2] at e1
            injection e1 with e1
            have := hbd.out
            rw [decide_eq_true e1.symm] at this
            simp at this)), hext.drew⟩
        | true =>
          cases d with
          | false =>
            go_wp2_with fail
            refine wp_region_pi (fun w' => w'.cell? ⟨b1, o1, none⟩ = some (.string f.1) ∧ w'.cell? ⟨b1, o1 + 1, none⟩ = some (.string f.2) ∧ w'.cell? ⟨b2, o2, none⟩ = some (.string g.1) ∧ w'.cell? ⟨b2, o2 + 1, none⟩ = some (.string g.2)) [(true, 0), (true, 1), (true, 2), (true, 3), (true, 4), (true, 5), (true, 6), (true, 7), (true, 8)] (by kernel_rfl) (by kernel_rfl) (by intro c a d v w h; cases d <;> exact h) ?_
            iterate 8 (refine pi_still rfl (HDD.out _ ((Ext.refl wr).drew)) rfl (fun w' hS => by obtain ⟨s0, s1, s2, s3⟩ := hS; have hi1 := i1 w'; have hi2 := i2 w'; go_simp; rfl) ?_; intro K hK; go_simp; refine hK _ _ ?_; clear hK K)
            refine pi_still rfl (HDD.out _ ((Ext.refl wr).drew)) rfl (fun w' hS => by go_simp; rfl) ?_; intro K hK; go_simp; refine hK _ _ ?_; clear hK K
            refine pi_nil ?_
            go_wp2
            go_ret
            exact ⟨congrArg Ending.returned (vbool (by
              rw [eq_comm, decide_eq_false_iff_not]
              intro e
              have e1 := HG1.out; have e2 := HG2.out
              rw [e, e2] at e1
              injection e1 with e1
              have := hbd.out
              rw [decide_eq_true e1.symm] at this
              simp at this)), hext.drew⟩
          | true =>
            go_wp2_with fail
            refine wp_region_pi (fun w' => w'.cell? ⟨b1, o1, none⟩ = some (.string f.1) ∧ w'.cell? ⟨b1, o1 + 1, none⟩ = some (.string f.2) ∧ w'.cell? ⟨b2, o2, none⟩ = some (.string g.1) ∧ w'.cell? ⟨b2, o2 + 1, none⟩ = some (.string g.2)) [(true, 0), (true, 1), (true, 2), (true, 3), (true, 4), (true, 5), (true, 6), (true, 7), (true, 8)] (by kernel_rfl) (by kernel_rfl) (by intro c a d v w h; cases d <;> exact h) ?_
            iterate 8 (refine pi_still rfl (HDD.out _ ((Ext.refl wr).drew)) rfl (fun w' hS => by obtain ⟨s0, s1, s2, s3⟩ := hS; have hi1 := i1 w'; have hi2 := i2 w'; go_simp; rfl) ?_; intro K hK; go_simp; refine hK _ _ ?_; clear hK K)
            refine pi_still rfl (HDD.out _ ((Ext.refl wr).drew)) rfl (fun w' hS => by go_simp; rfl) ?_; intro K hK; go_simp; refine hK _ _ ?_; clear hK K
            refine pi_nil ?_
            go_wp2
            go_roundw
            case rel =>
              refine ⟨k + 1, by go_num, by omega, ⟨fun j hj => ?_⟩, hext.drew⟩
              rcases Nat.lt_or_ge j k with h1 | h1
              · exact hall.out j h1
              · obtain rfl : j = k := by omega
                have := hbd.out
                rw [HG1.out, HG2.out, of_decide_eq_true this.symm]
            case measure => simp only [intOf]; omega
      · obtain rfl : k = fs.length := by omega
        go_wp2
        go_ret
        exact ⟨congrArg Ending.returned (vbool (by
          rw [eq_comm, decide_eq_true_eq]
          apply List.ext_getElem?
          intro j
          rcases Nat.lt_or_ge j fs.length with h | h
          · exact hall.out j h
          · rw [List.getElem?_eq_none h, List.getElem?_eq_none (by have := HL.out; omega)])), hext⟩
  · have hlb : ((fs.length : Int) == (gs.length : Int)) = false := by simp; omega
    go_enter Tryz.func23, Tryz.ntmps23
    go_wp2
    go_ret
    exact ⟨congrArg Ending.returned (vbool (by rw [decide_eq_false (by intro e; exact hlen (by rw [e]))])), Ext.refl _⟩
end Go.Proofs.YtfofapggmoibkaaGreatDoor
namespace Go.Proofs.YtfofapggmoibkaaGreatDoor
open Go Go.RowKit

/-- n files out of a reader -/
def pairsS (s : ByteArray) (st : Nat × Int) : Nat → List FileT × (Nat × Int)
  | 0 => ([], st)
  | n + 1 => ((pairsS s st n).1 ++ [((textS s (pairsS s st n).2).1, (textS s (textS s (pairsS s st n).2).2).1)], (textS s (textS s (pairsS s st n).2).2).2)
theorem pairsS_len (s : ByteArray) (st : Nat × Int) (n : Nat) : (pairsS s st n).1.length = n := by
  induction n with
  | zero => rfl
  | succ n ih => rw [pairsS]; simp [ih]
theorem pairsS_at (s : ByteArray) (st : Nat × Int) (h : st.1 ≤ s.size) (n : Nat) : (pairsS s st n).2.1 ≤ s.size := by
  induction n with
  | zero => exact h
  | succ n ih => exact textS_at (textS_at ih)
theorem pairsS_size (s : ByteArray) (st : Nat × Int) (n : Nat) : ∀ f ∈ (pairsS s st n).1, f.1.size ≤ s.size ∧ f.2.size ≤ s.size := by
  induction n with
  | zero => intro f hf; simp [pairsS] at hf
  | succ n ih =>
    intro f hf
    rw [pairsS] at hf
    rcases List.mem_append.1 hf with hf | hf
    · exact ih f hf
    · rw [List.mem_singleton] at hf
      subst hf
      exact ⟨textS_len, textS_len⟩
/-- what Files reads behind the count -/
def filesL (o : Obj) : List FileT × (Nat × Int) := pairsS o.data (countS o.data 32 (0, 0)).2 (countS o.data 32 (0, 0)).1.toNat
/-- the files of an archive -/
def filesO (o : Obj) : Int × List FileT :=
  if validB o = true ∧ o.kind = 0 then (if arcE (filesL o).1 = 0 ∧ endS o.data (filesL o).2 = 0 ∧ o.refs = [] then (0, (filesL o).1) else (9, [])) else (1, [])
end Go.Proofs.YtfofapggmoibkaaGreatDoor
namespace Go.Proofs.YtfofapggmoibkaaGreatDoor
open Go Go.RowKit

section
variable {P : Program} {ops : Array Oper} {rest : List Oper} {o : Oper} {a : Act} {Q : Exit → Act → World → Prop}
theorem app2 {W : World} (base : Nat) (hgd : o.guard = none) (s x : Operand) (t e : TypeId) (z : Value) (bytes : Nat)
    (ho : o.op = .call { callee := .builtin .append, args := #[s, x], argTypes := #[t, t] })
    (ht : P.underlying t = some (.slice e)) (hinfo : (P.info? e).map (fun i => (i.zero, i.size, i.bytes)) = some (some z, 2, bytes)) (hz : z.cells.size = 2)
    {v : Value} {n : Nat} {xs : List Value} (HO : W.ownsRow base e 2 v n xs) {y y' : Value} (hs : a.eval s = v) (hx : a.eval x = .slice (some ⟨W.heap.size, 0, none⟩) 1 1) (h1 : y.oneCell' = true) (h1' : y'.oneCell' = true) (hbase : base ≤ W.heap.size) (hl : n ≤ 1000000) (hb : bytes ≤ 1000000)
    (h : ∀ v1 w1, w1.ownsRow base e 2 v1 (n + 1) (xs ++ [y, y']) → W.grownBy w1 v.ownBlock → (v1.ownBlock = v.ownBlock ∨ ∃ b, v1.ownBlock = some b ∧ W.heap.size ≤ b) → wpList P ops Q rest (a.put o.dst v1) w1) :
    wpList P ops Q (o :: rest) a (W.alloc (.cells #[y, y'] e)) := by
  obtain ⟨i0, hi, hzz⟩ := Option.map_eq_some_iff.1 hinfo
  simp only [Prod.mk.injEq] at hzz
  obtain ⟨hz0, hz1, hz2⟩ := hzz
  have hb2 : (n + 1) * bytes ≤ 1000001 * 1000000 := Nat.mul_le_mul (by omega) hb
  refine wpList_append_own_at (W.alloc (.cells #[y, y'] e)) hgd s x t ho base e i0 z 2 bytes ht hi hz0 hz1 hz2 hz (by omega) v n xs hs (HO.alloc _) ⟨W.heap.size, 0, none⟩ 1 1 [y, y'] hx rfl
    (World.news_of_block (cs := #[y, y']) (t := e) (fr := (0, 0)) (heap_alloc_new W _)) (by simp [h1, h1']) (by simp only [maxLen]; omega) (by omega) (by simp; omega) ?_
  intro v1 w1 hown hg _ hat
  refine h v1 w1 hown (World.grownBy.trans (World.grownBy_alloc W _ _) hg) ?_
  rcases hat with hat | hat
  · exact .inl hat
  · exact .inr ⟨_, hat, by simp⟩
end
end Go.Proofs.YtfofapggmoibkaaGreatDoor
namespace Go.Proofs.YtfofapggmoibkaaGreatDoor
open Go Go.RowKit

theorem textS_reads {s x : ByteArray} {a : Nat} (hx : x.size < 9223372036854775808) (h : At s a (txt x).data.toList) : textS s (a, 0) = (x, (a + (txt x).data.toList.length, 0)) := by
  rw [data_len]; exact textS_ok (textO_reads hx h)
def arcL (fs : List FileT) : List UInt8 := (fs.map fun f => (txt f.1).data.toList ++ (txt f.2).data.toList).flatten
theorem arcL_snoc (fs : List FileT) (f : FileT) : arcL (fs ++ [f]) = arcL fs ++ ((txt f.1).data.toList ++ (txt f.2).data.toList) := by simp [arcL]
theorem arcL_app (fs gs : List FileT) : arcL (fs ++ gs) = arcL fs ++ arcL gs := by simp [arcL]
theorem arcT_list : ∀ (fs : List FileT) (z : ByteArray), (arcT fs z).data.toList = z.data.toList ++ arcL fs
  | [], z => by simp [arcT, arcL]
  | f :: fs, z => by
    have e : arcT (f :: fs) z = arcT fs (z ++ (txt f.1 ++ txt f.2)) := rfl
    rw [e, arcT_list fs, arcL, arcL]
    simp
theorem arcB_list (fs : List FileT) : (arcB fs).data.toList = uv fs.length ++ arcL fs := by rw [arcB, arcT_list]; rfl
theorem pairs_reads {s : ByteArray} {a : Nat} {fs : List FileT} (hB : ∀ f ∈ fs, f.1.size < 9223372036854775808 ∧ f.2.size < 9223372036854775808) (h : At s a (arcL fs)) :
    ∀ n, n ≤ fs.length → pairsS s (a, 0) n = (fs.take n, (a + (arcL (fs.take n)).length, 0)) := by
  intro n
  induction n with
  | zero => intro _; simp [pairsS, arcL]
  | succ n ih =>
    intro hn
    have ih := ih (by omega)
    have hg : fs[n]? = some fs[n] := List.getElem?_eq_getElem (by omega)
    obtain ⟨b1, b2⟩ := hB _ (List.getElem_mem (show n < fs.length by omega))
    generalize fs[n] = f at *
    have e : arcL fs = arcL (fs.take n) ++ ((txt f.1).data.toList ++ ((txt f.2).data.toList ++ arcL (fs.drop (n + 1)))) := by
      have h2 : arcL fs = arcL (fs.take (n + 1) ++ fs.drop (n + 1)) := by rw [List.take_append_drop]
      rw [h2, arcL_app, take_snoc hg, arcL_snoc]
      simp
    rw [e] at h
    have h1 := h.right
    have h2 := h1.left
    have h3 := h1.right.left
    rw [pairsS, ih]
    simp only
    rw [textS_reads b1 h2]
    simp only
    rw [textS_reads b2 h3]
    simp only
    rw [take_snoc hg, arcL_snoc, List.length_append, List.length_append]
    simp only [Nat.add_assoc]
theorem size_list (s : ByteArray) : s.data.toList.length = s.size := data_len s
/-- the files of an archive are those that it was made of -/
theorem files_arc {fs : List FileT} (hB : ∀ f ∈ fs, f.1.size < 9223372036854775808 ∧ f.2.size < 9223372036854775808) (h : arcE fs = 0) : filesO ⟨0, [], arcB fs⟩ = (0, fs) := by
  have h32 : fs.length ≤ 32 ∧ (arcB fs).size ≤ 65536 := by
    unfold arcE at h
    split at h
    · split at h
      · cases h
      · rename_i h1; omega
    · cases h
  have hl := arcB_list fs
  have hat : At (arcB fs) 0 (uv fs.length ++ arcL fs) := by rw [← hl]; exact At.all _
  have hc : countS (arcB fs) 32 (0, 0) = ((fs.length : Int), ((uv fs.length).length, 0)) := by
    refine countS_ok ?_
    rw [countO, sizeO_reads (n := fs.length) (by omega) hat.left]
    simp only
    rw [if_pos h32.1, Nat.zero_add]
  have hp := pairs_reads hB hat.right fs.length (Nat.le_refl _)
  rw [List.take_length] at hp
  have hsz : (arcB fs).size = 0 + (uv fs.length).length + (arcL fs).length := by rw [← size_list, hl, List.length_append]; omega
  have hfl : filesL ⟨0, [], arcB fs⟩ = (fs, (0 + (uv fs.length).length + (arcL fs).length, 0)) := by
    rw [filesL]
    simp only
    rw [hc]
    simp only [Int.toNat_natCast]
    rw [show ((uv fs.length).length, (0 : Int)) = (0 + (uv fs.length).length, 0) by rw [Nat.zero_add]]
    exact hp
  rw [filesO, if_pos (⟨by simp [validB, digB, h32.2], rfl⟩ : validB ⟨0, [], arcB fs⟩ = true ∧ (0 : Int) = 0), hfl]
  simp only
  rw [if_pos ⟨h, by rw [endS, if_neg (by simp only; omega)], trivial⟩]
end Go.Proofs.YtfofapggmoibkaaGreatDoor
namespace Go.Proofs.YtfofapggmoibkaaGreatDoor
open Go Go.RowKit

def FilesPost (w : World) (r : Int × List FileT) (e : Ending) (w' : World) : Prop :=
  Ext w w' ∧ ∃ A c, RowAt w' A (fcells r.2) ∧ e = .returned (.tuple #[.slice A r.2.length c, .int .i64 r.1])
set_option maxRecDepth 100000 in
set_option maxHeartbeats 2000000 in
theorem files_bad (o : Obj) (A : Option Addr) (c : Nat) (w : World) (hl : o.refs.length ≤ 9223372036854775807) (hd : o.data.size ≤ 9223372036854775807) (hA : StrsAt w A o.refs) (hbad : ¬ (validB o = true ∧ o.kind = 0)) :
    Calls Tryz.prog 21 #[.agg #[.int .i64 o.kind, .slice A o.refs.length c, .string o.data]] w (FilesPost w (filesO o)) := by
  have HR : Hd (filesO o = (1, [])) := ⟨by rw [filesO, if_neg hbad]⟩
  generalize filesO o = r at *
  obtain ⟨i, l⟩ := r
  have HA := Hd.mk hA; clear hA
  have HE := Hd.mk ((Ext.refl w).alloc (.cells #[.int .i64 o.kind, .slice A o.refs.length c, .string o.data] 24))
  have HC : Hd (∀ w', Ext (w.alloc (.cells #[.int .i64 o.kind, .slice A o.refs.length c, .string o.data] 24)) w' → w'.cell? ⟨w.heap.size, 0, none⟩ = some (.int .i64 o.kind)) := ⟨fun w' hx => cell_of (hx.obj (heap_alloc_new w _)) rfl⟩
  cases hv : validB o with
  | false =>
    have HV := Hd.mk hv; clear hv hbad
    go_enter Tryz.func21, Tryz.ntmps21
    go_wp2_with fail
    refine (valid_is o false HV A c _ hl hd (HA.out.ext HE.out)).mono ?_; rintro e w1 ⟨rfl, hx1⟩
    go_wp2
    go_ret2
    have h := HR.out
    injection h with h1 h2
    subst h1; subst h2
    exact ⟨HE.out.trans hx1, none, 0, .inl ⟨rfl, rfl⟩, rfl⟩
  | true =>
    have hk : (o.kind != 0) = true := by
      have : o.kind ≠ 0 := fun e => hbad ⟨hv, e⟩
      simp [this]
    have HV := Hd.mk hv; clear hv hbad
    go_enter Tryz.func21, Tryz.ntmps21
    go_wp2_with fail
    refine (valid_is o true HV A c _ hl hd (HA.out.ext HE.out)).mono ?_; rintro e w1 ⟨rfl, hx1⟩
    have hc := HC.out w1 hx1
    go_wp2
    go_ret2
    have h := HR.out
    injection h with h1 h2
    subst h1; subst h2
    exact ⟨HE.out.trans hx1, none, 0, .inl ⟨rfl, rfl⟩, rfl⟩
end Go.Proofs.YtfofapggmoibkaaGreatDoor
namespace Go.Proofs.YtfofapggmoibkaaGreatDoor
open Go Go.RowKit

theorem countS_in {s : ByteArray} {most : Nat} {st : Nat × Int} (h : st.1 ≤ s.size) : (countS s most st).2.1 ≤ s.size ∧ 0 ≤ (countS s most st).1 ∧ (countS s most st).1 ≤ most := by
  unfold countS
  split
  · split
    · rename_i n next heq
      obtain ⟨h1, h2⟩ := countO_some heq
      have h3 := sizeO_bound h1
      simp only; omega
    · simp only; omega
  · simp only; omega
theorem row_own {w : World} {B n m : Nat} {e : TypeId} {v : Value} {xs : List Value} (h : w.ownsRow B e m v n xs) : ∃ A c, v = .slice A n c ∧ RowAt w A xs := by
  rcases h.2 with ⟨rfl, rfl⟩ | ⟨g, cap, cur, rfl, _⟩
  · exact ⟨none, 0, rfl, .inl ⟨rfl, List.eq_nil_of_length_eq_zero (by rw [h.1]; simp)⟩⟩
  · refine ⟨some ⟨g, 0, none⟩, cap, rfl, .inr ⟨g, 0, rfl, fun i v hi => ?_⟩⟩
    have := h.cells (g := g) rfl i v hi
    have ha : (⟨g, 0, none⟩ : Addr).add i = ⟨g, 0 + i, none⟩ := by unfold Addr.add; split <;> simp_all
    rwa [ha] at this
theorem own_rb {w w' : World} {rb n m : Nat} {e : TypeId} {v : Value} {xs : List Value} (h : w.ownsRow (rb + 1) e m v n xs) (hb : But w w' rb) : w'.ownsRow (rb + 1) e m v n xs := by
  refine h.kept hb ?_
  cases hv : v.ownBlock with
  | none => exact .inl rfl
  | some k => refine .inr ?_; intro e; injection e with e; have := own_base h k hv; omega
theorem arcR_form (fs : List FileT) : ∃ s : ByteArray, arcR fs = .tuple #[.agg #[.int .i64 0, .slice none 0 0, .string s], .int .i64 (arcE fs)] := by
  unfold arcR
  split
  · rename_i h; exact ⟨_, by rw [h]⟩
  · exact ⟨_, rfl⟩
theorem archive_is (fs : List FileT) (z : Value) (H : Hd (arcR fs = z)) (A : Option Addr) (c : Nat) (w : World) (hn : fs.length ≤ 1000) (hB : ∀ f ∈ fs, f.1.size ≤ 1000000 ∧ f.2.size ≤ 1000000) (hA : RowAt w A (fcells fs)) (hg : GV w) :
    Calls Tryz.prog 19 #[.slice A fs.length c] w fun e w' => e = .returned z ∧ Ext w w' := by
  rw [← H.out]; exact archive_any fs A c w hn hB hA hg
theorem rEnd_is {s : ByteArray} {rb : Nat} {st : Nat × Int} (n : Int) (H : Hd (endS s st = n)) (w : World) (hR : Rdr w rb s st) (hs : s.size ≤ 1000000000) (ha : st.1 ≤ 2000000000) :
    Calls Tryz.prog 52 #[.pointer (some ⟨rb, 0, none⟩)] w fun e w' => e = .returned (.int .i64 n) ∧ Ext w w' := by
  rw [← H.out]; exact rEnd w hR hs ha
theorem info_file3 : (Tryz.prog.info? 41).map (fun i => (i.zero, i.size, i.bytes)) = some (some (.agg #[.string ⟨#[]⟩, .string ⟨#[]⟩]), 2, 32) := by kernel_rfl
theorem rCount_is {s : ByteArray} {rb : Nat} {st : Nat × Int} (most : Nat) {n : Int} {st' : Nat × Int} (H : Hd (countS s most st = (n, st'))) (w : World) (hR : Rdr w rb s st) (hs : s.size ≤ 1000000000) (ha : st.1 ≤ 2000000000) :
    Calls Tryz.prog 61 #[.pointer (some ⟨rb, 0, none⟩), .int .i64 most] w (Read w rb s (.int .i64 n) st') := by
  have h := rCount most w hR hs ha
  rw [H.out] at h
  exact h
set_option maxRecDepth 100000 in
set_option maxHeartbeats 4000000 in
theorem files_good (o : Obj) (A : Option Addr) (c : Nat) (w : World) (hok : validB o = true) (hk0 : o.kind = 0) (hA : StrsAt w A o.refs) (hg : GV w) :
    Calls Tryz.prog 21 #[.agg #[.int .i64 o.kind, .slice A o.refs.length c, .string o.data]] w (FilesPost w (filesO o)) := by
  have ho := validB_ok hok
  obtain ⟨k0, k1, n0, dd, rr⟩ := ho
  have HV := Hd.mk hok; have HA := Hd.mk hA; have HK := Hd.mk hk0; have HG := Hd.mk hg
  have hkb : (o.kind != 0) = false := by simp [hk0]
  have hcn := countS_in (s := o.data) (most := 32) (st := (0, 0)) (Nat.zero_le _)
  obtain ⟨cn, st0, hcs⟩ : ∃ (cn : Nat) (st0 : Nat × Int), countS o.data 32 (0, 0) = ((cn : Int), st0) := ⟨(countS o.data 32 (0, 0)).1.toNat, (countS o.data 32 (0, 0)).2, Prod.ext (by simp only; omega) rfl⟩
  have HFO : Hd (filesO o = if arcE (pairsS o.data st0 cn).1 = 0 ∧ endS o.data (pairsS o.data st0 cn).2 = 0 ∧ o.refs = [] then (0, (pairsS o.data st0 cn).1) else (9, [])) := ⟨by
    rw [filesO, if_pos ⟨hok, hk0⟩, filesL, hcs]
    rfl⟩
  rw [hcs] at hcn
  simp only at hcn
  have HCS := Hd.mk hcs; clear hcs
  clear hok hA hk0 hg rr
  have HE := Hd.mk ((Ext.refl w).alloc (.cells #[.int .i64 o.kind, .slice A o.refs.length c, .string o.data] 24))
  have HC : Hd (∀ w', Ext (w.alloc (.cells #[.int .i64 o.kind, .slice A o.refs.length c, .string o.data] 24)) w' → w'.cell? ⟨w.heap.size, 0, none⟩ = some (.int .i64 o.kind) ∧ w'.cell? ⟨w.heap.size, 1, none⟩ = some (.slice A o.refs.length c) ∧ w'.cell? ⟨w.heap.size, 2, none⟩ = some (.string o.data)) := ⟨fun w' hx => ⟨cell_of (hx.obj (heap_alloc_new w _)) rfl, cell_of (hx.obj (heap_alloc_new w _)) rfl, cell_of (hx.obj (heap_alloc_new w _)) rfl⟩⟩
  go_enter Tryz.func21, Tryz.ntmps21
  go_wp2_with fail
  refine (valid_is o true HV A c _ (by omega) (by omega) (HA.out.ext HE.out)).mono ?_; rintro e w1 ⟨rfl, hx1⟩
  obtain ⟨q0, q1, q2⟩ := HC.out w1 hx1
  have HX1 := Hd.mk hx1; clear hx1
  go_wp2_with fail
  refine (newReader o.data _).mono ?_; rintro e w2 ⟨rfl, hr2, hx2⟩
  go_wp2_with fail
  refine (rCount_is 32 HCS _ hr2 (by omega) (by simp)).mono ?_; rintro e w3 ⟨rfl, hr3, hg3⟩
  have hrb : w1.heap.size + 1 ≤ w3.heap.size := by have := hr3.lt; omega
  have HX3 := Hd.mk (But.ext hx2 hg3 (Nat.le_refl _))
  have HR3 := Hd.mk hr3
  clear hr3 hr2 hx2 hg3 q0 q1 q2
  go_wp2_with fail
  go_loopw [5, 22] (fun v5 i wr => ∃ (k : Nat), i = .int .i64 (k : Int) ∧ wr.ownsRow (w1.heap.size + 1) 41 2 v5 k (fcells (pairsS o.data st0 k).1) ∧ Rdr wr w1.heap.size o.data (pairsS o.data st0 k).2 ∧ k ≤ cn ∧ Ext w1 wr) (fun _ i _ => cn - (intOf i).toNat)
  case atStart => exact ⟨0, rfl, own_nil _ _ _ _, HR3.out, Nat.zero_le _, HX3.out⟩
  case round =>
    clear HR3 HX3
    obtain ⟨k, rfl, hown, hrd, hkn, hext⟩ := hrel
    have hat := pairsS_at o.data st0 hcn.1 k
    have hat2 := textS_at (s := o.data) (st := (pairsS o.data st0 k).2) hat
    by_cases hlt : (k : Int) < cn
    · have HO := Hd.mk hown; have HR := Hd.mk hrd; have HX := Hd.mk hext; clear hown hrd hext
      have hstep : pairsS o.data st0 (k + 1) = ((pairsS o.data st0 k).1 ++ [((textS o.data (pairsS o.data st0 k).2).1, (textS o.data (textS o.data (pairsS o.data st0 k).2).2).1)], (textS o.data (textS o.data (pairsS o.data st0 k).2).2).2) := by rw [pairsS]
      have HS := Hd.mk hstep; clear hstep
      go_wp2_with fail
      refine (rText _ HR.out (by omega) (by omega)).mono ?_; rintro e w4 ⟨rfl, hr4, hg4⟩
      go_wp2_with fail
      refine (rText _ hr4 (by omega) (by omega)).mono ?_; rintro e w5 ⟨rfl, hr5, hg5⟩
      have HO5 := Hd.mk (own_rb (own_rb HO.out hg4) hg5)
      have HX5 := Hd.mk (But.ext (But.ext HX.out hg4 (Nat.le_refl _)) hg5 (Nat.le_refl _))
      have HR5 := Hd.mk hr5
      have hsz5 : w1.heap.size + 1 ≤ w5.heap.size := by have := hr5.lt; omega
      clear hr4 hg4 hr5 hg5 HO HX HR
      generalize textS o.data (textS o.data (pairsS o.data st0 k).2).2 = t2 at *
      generalize textS o.data (pairsS o.data st0 k).2 = t1 at *
      obtain ⟨y1, s1⟩ := t1
      obtain ⟨y2, s2⟩ := t2
      simp only at *
      have h5 := HO5.out
      have hk6 : k ≤ 1000000 := by omega
      go_wp2_with (at_builtin; refine app2 (w1.heap.size + 1) rfl _ _ 34 41 (.agg #[.string ⟨#[]⟩, .string ⟨#[]⟩]) 32 rfl Tryz.underlying34 info_file3 rfl h5 (y := .string y1) (y' := .string y2) rfl rfl rfl rfl hsz5 hk6 (by decide) ?_; intro v6 w6 hown6 hg6 hat6; have HO6 := Hd.mk hown6; have HG6 := Hd.mk hg6; clear hown6 hg6 hat6 h5)
      go_roundw
      case rel =>
        refine ⟨k + 1, by go_num, ?_, ?_, by omega, ?_⟩
        · rw [HS.out]
          have := HO6.out
          simpa [fcells] using this
        · rw [HS.out]
          have hb := own_base HO5.out
          have hrb5 := HR5.out
          unfold Rdr at hrb5 ⊢
          rw [HG6.out.block _ HR5.out.lt (by intro e; have := hb _ e.symm; omega)]
          exact hrb5
        · exact HX5.out.grown HG6.out (fun j hj => by have := own_base HO5.out j hj; omega)
      case measure => simp only [intOf]; omega
    · obtain rfl : k = cn := by omega
      obtain ⟨A5, c5, rfl, hA5⟩ := row_own hown
      have hlen := pairsS_len o.data st0 k
      have hsz := pairsS_size o.data st0 k
      generalize pairsS o.data st0 k = ps at *
      obtain ⟨fs, st1⟩ := ps
      simp only at *
      subst hlen
      obtain ⟨sa, hsa⟩ := arcR_form fs
      have HSA := Hd.mk hsa; have HA5 := Hd.mk hA5; have HSZ := Hd.mk hsz; have HR5 := Hd.mk hrd; have HX5 := Hd.mk hext
      have HG5 := Hd.mk ((HG.out.ext (HE.out.trans HX1.out)).ext hext)
      clear hsa hA5 hsz hown hrd hext
      generalize arcE fs = ae at *
      generalize hen : endS o.data st1 = en at *
      have HEN := Hd.mk hen; clear hen
      go_wp2_with fail
      refine (archive_is fs _ HSA A5 c5 _ (by omega) (fun f hf => by have := HSZ.out f hf; omega) HA5.out HG5.out).mono ?_; rintro e w6 ⟨rfl, hx6⟩
      have HX6 := Hd.mk (hx6.trans (Ext.refl _)); clear hx6
      have D7 : Hd (∀ w7, Ext w6 w7 → Rdr w7 w1.heap.size o.data st1 ∧ RowAt w7 A5 (fcells fs) ∧ Ext w w7 ∧ w7.cell? ⟨w.heap.size, 1, none⟩ = some (.slice A o.refs.length c)) := ⟨fun w7 hx7 => ⟨HR5.out.far (HX6.out.trans hx7), HA5.out.ext (HX6.out.trans hx7), ((HE.out.trans HX1.out).trans HX5.out).trans (HX6.out.trans hx7), (HC.out w7 ((HX1.out.trans HX5.out).trans (HX6.out.trans hx7))).2.1⟩⟩
      clear HR5 HA5
      by_cases hae : ae = 0
      · have hb : (ae != 0) = false := by simp [hae]
        have HAE := Hd.mk hae; clear hae
        by_cases hen : en = 0
        · have he : (en != 0) = false := by simp [hen]
          have HENN := Hd.mk hen; clear hen
          by_cases hre : o.refs.length = 0
          · have hl : ¬ (o.refs.length : Int) > 0 := by omega
            have HRE := Hd.mk (List.eq_nil_of_length_eq_zero hre); clear hre
            go_wp2_with (refine boxRow 24 objZ ?_ #[.int .i64 0, .slice none 0 0, .string sa] (n := 53) (i := 7) (k := 37) ?_ ?_ ?_ ?_ ?_ ?_; exact info_obj; rfl; decide; rfl; rfl; (simp [Value.oneCell']); intro w7 h7 hx7 hz7; have HX7 := Hd.mk hx7; clear h7 hx7)
            refine (rEnd_is en HEN _ (D7.out _ HX7.out).1 (by omega) (by omega)).mono ?_; rintro e w8 ⟨rfl, hx8⟩
            have HX8 := Hd.mk (HX7.out.trans hx8); clear hx8
            have q1 := (D7.out _ HX8.out).2.2.2
            go_wp2
            go_ret2
            rw [HFO.out, if_pos ⟨HAE.out, HENN.out, HRE.out⟩]
            exact ⟨(D7.out _ HX8.out).2.2.1, A5, c5, (D7.out _ HX8.out).2.1, rfl⟩
          · have hl : (o.refs.length : Int) > 0 := by omega
            have HRE : Hd (¬ o.refs = []) := ⟨fun e => hre (by rw [e]; rfl)⟩; clear hre
            go_wp2_with (refine boxRow 24 objZ ?_ #[.int .i64 0, .slice none 0 0, .string sa] (n := 53) (i := 7) (k := 37) ?_ ?_ ?_ ?_ ?_ ?_; exact info_obj; rfl; decide; rfl; rfl; (simp [Value.oneCell']); intro w7 h7 hx7 hz7; have HX7 := Hd.mk hx7; clear h7 hx7)
            refine (rEnd_is en HEN _ (D7.out _ HX7.out).1 (by omega) (by omega)).mono ?_; rintro e w8 ⟨rfl, hx8⟩
            have HX8 := Hd.mk (HX7.out.trans hx8); clear hx8
            have q1 := (D7.out _ HX8.out).2.2.2
            go_wp2
            go_ret2
            rw [HFO.out, if_neg (fun h => HRE.out h.2.2)]
            exact ⟨(D7.out _ HX8.out).2.2.1, none, 0, .inl ⟨rfl, rfl⟩, rfl⟩
        · have he : (en != 0) = true := by simp [hen]
          have HENN := Hd.mk hen; clear hen
          go_wp2_with (refine boxRow 24 objZ ?_ #[.int .i64 0, .slice none 0 0, .string sa] (n := 53) (i := 7) (k := 37) ?_ ?_ ?_ ?_ ?_ ?_; exact info_obj; rfl; decide; rfl; rfl; (simp [Value.oneCell']); intro w7 h7 hx7 hz7; have HX7 := Hd.mk hx7; clear h7 hx7)
          refine (rEnd_is en HEN _ (D7.out _ HX7.out).1 (by omega) (by omega)).mono ?_; rintro e w8 ⟨rfl, hx8⟩
          have HX8 := Hd.mk (HX7.out.trans hx8); clear hx8
          go_wp2
          go_ret2
          rw [HFO.out, if_neg (fun h => HENN.out h.2.1)]
          exact ⟨(D7.out _ HX8.out).2.2.1, none, 0, .inl ⟨rfl, rfl⟩, rfl⟩
      · have hb : (ae != 0) = true := by simp [hae]
        have HAE := Hd.mk hae; clear hae
        go_wp2_with (refine boxRow 24 objZ ?_ #[.int .i64 0, .slice none 0 0, .string sa] (n := 53) (i := 7) (k := 37) ?_ ?_ ?_ ?_ ?_ ?_; exact info_obj; rfl; decide; rfl; rfl; (simp [Value.oneCell']); intro w7 h7 hx7 hz7; have HX7 := Hd.mk hx7; clear h7 hx7)
        go_ret2
        rw [HFO.out, if_neg (fun h => HAE.out h.1)]
        exact ⟨(D7.out _ HX7.out).2.2.1, none, 0, .inl ⟨rfl, rfl⟩, rfl⟩
theorem files_any (o : Obj) (A : Option Addr) (c : Nat) (w : World) (hl : o.refs.length ≤ 9223372036854775807) (hd : o.data.size ≤ 9223372036854775807) (hA : StrsAt w A o.refs) (hg : GV w) :
    Calls Tryz.prog 21 #[.agg #[.int .i64 o.kind, .slice A o.refs.length c, .string o.data]] w (FilesPost w (filesO o)) := by
  by_cases h : validB o = true ∧ o.kind = 0
  · exact files_good o A c w h.1 h.2 hA hg
  · exact files_bad o A c w hl hd hA h
end Go.Proofs.YtfofapggmoibkaaGreatDoor
