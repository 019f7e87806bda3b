/- Archives: files in memory, what Archive answers. Names of files: the parts as a plain recursion. Archives: Archive, walked. -/
import Derived.Test.YtfofapggmoibkaaGreatDoorProg
import Derived.Test.YtfofapggmoibkaaGreatDoorNameX
import Derived.Test.YtfofapggmoibkaaGreatDoorSetY
import Derived.Lib.SplitLaws
set_option linter.unusedVariables false
set_option linter.unusedSimpArgs false
namespace Go.Proofs.YtfofapggmoibkaaGreatDoor
open Go Go.RowKit

abbrev FileT := ByteArray × ByteArray
def fcells (fs : List FileT) : List Value := fs.flatMap fun f => [Value.string f.1, Value.string f.2]
theorem fcells_len (fs : List FileT) : (fcells fs).length = fs.length * 2 := by
  induction fs with
  | nil => rfl
  | cons f fs ih => simp [fcells] at ih ⊢; omega
theorem fcells_get : ∀ {fs : List FileT} {k : Nat} {f : FileT}, fs[k]? = some f → (fcells fs)[k * 2]? = some (.string f.1) ∧ (fcells fs)[k * 2 + 1]? = some (.string f.2)
  | [], k, f, h => by simp at h
  | g :: fs, 0, f, h => by
    simp only [List.getElem?_cons_zero, Option.some.injEq] at h
    subst h
    exact ⟨rfl, rfl⟩
  | g :: fs, k + 1, f, h => by
    simp only [List.getElem?_cons_succ] at h
    have := fcells_get h
    have e : fcells (g :: fs) = Value.string g.1 :: Value.string g.2 :: fcells fs := rfl
    rw [e, show (k + 1) * 2 = k * 2 + 1 + 1 by omega, List.getElem?_cons_succ, List.getElem?_cons_succ, List.getElem?_cons_succ, List.getElem?_cons_succ]
    exact this
/-- file k of a slice -/
theorem file_get {w : World} {A : Option Addr} {fs : List FileT} (h : RowAt w A (fcells fs)) (c k : Nat) {f : FileT} (hk : fs[k]? = some f) :
    ∃ b o, (∀ w', (Instr.indexAt 34 (.slice A fs.length c) (.int .i64 (k : Int))).run Tryz.prog w' = .ok (.pointer (some ⟨b, o, none⟩)) w') ∧ w.cell? ⟨b, o, none⟩ = some (.string f.1) ∧ w.cell? ⟨b, o + 1, none⟩ = some (.string f.2) := by
  have hlt := (List.getElem?_eq_some_iff.1 hk).1
  obtain ⟨b, o, h1, h2⟩ := h.get 34 41 Tryz.underlying34 2 Tryz.sizeOf41 fs.length c k hlt (by rw [fcells_len]; omega) (by omega)
  obtain ⟨g1, g2⟩ := fcells_get hk
  exact ⟨b, o, h1, h2 0 _ (by omega) g1, h2 1 _ (by omega) g2⟩
def ltB (a b : ByteArray) : Bool := Op.bytesLess a.toList b.toList
/-- the bytes of the files -/
def arcT (fs : List FileT) (z : ByteArray) : ByteArray := fs.foldl (fun a f => a ++ (txt f.1 ++ txt f.2)) z
def arcB (fs : List FileT) : ByteArray := arcT fs (uvs fs.length)
theorem arcT_snoc (fs : List FileT) (f : FileT) (z : ByteArray) : arcT (fs ++ [f]) z = arcT fs z ++ (txt f.1 ++ txt f.2) := by simp [arcT]
/-- a part before a slash is known -/
def under (s : ByteArray) (known : List ByteArray) : Bool := (List.range s.size).any fun k => byt s k == 47 && known.any fun x => decide (x = s.extract 0 k)
/-- file f is good behind the files l -/
def goodF (l : List FileT) (f : FileT) : Bool := nameP f.1 && (match l.getLast? with | none => true | some g => ltB g.1 f.1) && !under f.1 (l.map (·.1))
/-- the first k files are good -/
def goodK (fs : List FileT) : Nat → Bool
  | 0 => true
  | k + 1 => goodK fs k && (match fs[k]? with | some f => goodF (fs.take k) f | none => true)
def arcE (fs : List FileT) : Int := if goodK fs fs.length = true then (if 32 < fs.length ∨ 65536 < (arcB fs).size then 7 else 0) else 4
/-- what Archive hands back -/
def arcR (fs : List FileT) : Value := if arcE fs = 0 then .tuple #[.agg #[.int .i64 0, .slice none 0 0, .string (arcB fs)], .int .i64 0] else .tuple #[.agg objZ, .int .i64 (arcE fs)]
theorem goodK_mono (fs : List FileT) : ∀ k n, k ≤ n → goodK fs n = true → goodK fs k = true
  | k, 0, h, hg => by
    obtain rfl : k = 0 := by omega
    exact hg
  | k, n + 1, h, hg => by
    rcases Nat.lt_or_ge k (n + 1) with h1 | h1
    · rw [goodK, Bool.and_eq_true] at hg
      exact goodK_mono fs k n (by omega) hg.1
    · obtain rfl : k = n + 1 := by omega
      exact hg
theorem arc_bad {fs : List FileT} {k : Nat} {f : FileT} (hk : fs[k]? = some f) (hb : goodF (fs.take k) f = false) : arcE fs = 4 := by
  have hlt := (List.getElem?_eq_some_iff.1 hk).1
  rw [arcE, if_neg]
  intro h
  have := goodK_mono fs (k + 1) fs.length (by omega) h
  rw [goodK, hk] at this
  simp only [hb, Bool.and_false] at this
  cases this
end Go.Proofs.YtfofapggmoibkaaGreatDoor
namespace Go.Proofs.YtfofapggmoibkaaGreatDoor
open Go Go.RowKit

def cutL : List UInt8 → List (List UInt8)
  | [] => [[]]
  | b :: l => if b = 47 then [] :: cutL l else match cutL l with | p :: ps => (b :: p) :: ps | [] => [[b]]
theorem cutL_ne (l : List UInt8) : cutL l ≠ [] := by
  cases l with
  | nil => simp [cutL]
  | cons b l =>
    rw [cutL]
    split
    · simp
    · split <;> simp
theorem idx_hit (l : List UInt8) : Lib.index (47 :: l) [47] = 0 := by simp [Lib.index, List.isPrefixOf]
theorem idx_ge (l : List UInt8) : -1 ≤ Lib.index l [47] := by
  induction l with
  | nil => simp [Lib.index]
  | cons b l ih =>
    rw [Lib.index]
    split
    · omega
    · split
      · omega
      · omega
theorem idx_none {l : List UInt8} : Lib.index l [47] = -1 ↔ l.count 47 = 0 := by
  induction l with
  | nil => simp [Lib.index]
  | cons b l ih =>
    have hg := idx_ge l
    by_cases hb : b = 47
    · subst hb
      rw [idx_hit]
      simp
    · rw [Lib.index, if_neg (by simp [List.isPrefixOf]; exact fun e => hb e.symm), List.count_cons_of_ne hb]
      constructor
      · intro h
        rw [← ih]
        split at h
        · rename_i h1; simpa using h1
        · omega
      · intro h
        rw [if_pos (by simpa using ih.2 h)]
theorem idx_cons {b : UInt8} {l : List UInt8} (hb : b ≠ 47) (h : Lib.index l [47] ≠ -1) : Lib.index (b :: l) [47] = Lib.index l [47] + 1 := by
  rw [Lib.index, if_neg (by simp [List.isPrefixOf]; exact fun e => hb e.symm), if_neg (by simpa using h)]
theorem splitK_cut (l : List UInt8) : Lib.splitK [47] 0 (l.count 47) l = cutL l := by
  induction l with
  | nil => rfl
  | cons b l ih =>
    by_cases hb : b = 47
    · subst hb
      rw [List.count_cons_self, Lib.splitK, idx_hit, if_neg (by decide), cutL, if_pos rfl]
      simpa using ih
    · rw [List.count_cons_of_ne hb, cutL, if_neg hb]
      cases hk : l.count 47 with
      | zero =>
        rw [hk] at ih
        rw [← ih]
        rfl
      | succ k =>
        rw [hk] at ih
        have hi : Lib.index l [47] ≠ -1 := by intro e; rw [idx_none] at e; omega
        have hge := idx_ge l
        rw [Lib.splitK, if_neg (by simpa using hi)] at ih
        rw [Lib.splitK, idx_cons hb hi, if_neg (by simp; omega), ← ih]
        simp only
        obtain ⟨i, hi2⟩ := Int.eq_ofNat_of_zero_le (show 0 ≤ Lib.index l [47] by omega)
        rw [hi2]
        rw [show ((i : Int) + 1).toNat + 0 = i + 1 by omega, show (i : Int).toNat + 0 = i by omega, show ((i : Int) + 1).toNat + [(47 : UInt8)].length = (i + 1) + 1 by simp, show (i : Int).toNat + [(47 : UInt8)].length = i + 1 by simp]
        simp
def partL (p : List UInt8) : Bool := !p.isEmpty && !((p.getD 0 0).toNat == 46) && p.all fun b => okR (b.toNat : Int)
theorem partP_list (s : ByteArray) : partP s = partL s.data.toList := by
  unfold partP partL byt
  have : (s.size == 0) = s.data.toList.isEmpty := by
    have e : s.data.toList.isEmpty = (s.data.toList.length == 0) := by cases s.data.toList <;> rfl
    rw [e, data_len]
  rw [this]
theorem splitP_list (s : ByteArray) : (splitP s).map (·.data.toList) = cutL s.data.toList := by
  have h := Lib.splitB_data ⟨#[47]⟩ 0 (Lib.countB s ⟨#[47]⟩) s
  unfold splitP
  rw [h]
  have hc : Lib.countB s ⟨#[47]⟩ = s.data.toList.count 47 := by
    show Lib.count s.data.toList [47] = _
    exact Lib.count_one 47 _
  rw [hc]
  exact splitK_cut _
/-- a name, by its list of bytes -/
def nameL (l : List UInt8) : Bool := decide (l.length ≤ 64) && (cutL l).all partL
theorem nameP_list (s : ByteArray) : nameP s = nameL s.data.toList := by
  unfold nameP nameL
  rw [data_len, ← splitP_list, List.all_map]
  congr 1
  rw [← List.not_all_eq_any_not, Bool.not_not]
  congr 1
  funext p
  exact partP_list p
theorem cutL_bytes : ∀ (l : List UInt8) (b : UInt8), b ∈ l → b = 47 ∨ ∃ p ∈ cutL l, b ∈ p
  | [], b, h => by simp at h
  | c :: l, b, h => by
    rw [cutL]
    by_cases hc : c = 47
    · rw [if_pos hc]
      rcases List.mem_cons.1 h with rfl | h
      · exact .inl hc
      · rcases cutL_bytes l b h with h1 | ⟨p, hp, hb⟩
        · exact .inl h1
        · exact .inr ⟨p, by simp [hp], hb⟩
    · rw [if_neg hc]
      cases hl : cutL l with
      | nil => exact absurd hl (cutL_ne l)
      | cons q qs =>
        simp only
        rcases List.mem_cons.1 h with rfl | h
        · exact .inr ⟨b :: q, by simp, by simp⟩
        · rcases cutL_bytes l b h with h1 | ⟨p, hp, hb⟩
          · exact .inl h1
          · rw [hl] at hp
            rcases List.mem_cons.1 hp with rfl | hp
            · exact .inr ⟨c :: p, by simp, by simp [hb]⟩
            · exact .inr ⟨p, by simp [hp], hb⟩
theorem name_ascii {s : ByteArray} (h : nameP s = true) (i : Nat) (hi : i < s.size) : byt s i < 128 := by
  rw [nameP_list, nameL, Bool.and_eq_true, List.all_eq_true] at h
  have hlt : i < s.data.toList.length := by rw [data_len]; exact hi
  have hm : s.data.toList[i] ∈ s.data.toList := List.getElem_mem hlt
  have hb : byt s i = (s.data.toList[i]).toNat := by
    unfold byt
    rw [List.getD_eq_getElem?_getD, List.getElem?_eq_getElem hlt]; rfl
  rw [hb]
  rcases cutL_bytes _ _ hm with h1 | ⟨p, hp, hbp⟩
  · rw [h1]; decide
  · have h2 := h.2 p hp
    unfold partL at h2
    rw [Bool.and_eq_true, List.all_eq_true] at h2
    have := (okR_ascii (h2.2 _ hbp)).2
    omega
theorem name_size {s : ByteArray} (h : nameP s = true) : s.size ≤ 64 := by
  rw [nameP, Bool.and_eq_true, decide_eq_true_eq] at h
  exact h.1
end Go.Proofs.YtfofapggmoibkaaGreatDoor
namespace Go.Proofs.YtfofapggmoibkaaGreatDoor
open Go Go.RowKit

theorem Bld.map {w w' : World} {B b mb : Nat} {l : List UInt8} {L : List (ByteArray × Value)} (h : Bld w B b l) (hm : MapIs w mb L) (hb : But w w' mb) : Bld w' B b l := by
  have key : ∀ p, Lib.BuilderAt 79 5 B b p (Lib.byteCells l) w → Lib.BuilderAt 79 5 B b p (Lib.byteCells l) w' := by
    rintro p ⟨h1, v, h2, h3, h4⟩
    refine ⟨h1, v, hb.other ?_ h2, own_map h3 hm hb, h4⟩
    intro e
    subst e
    obtain ⟨es, clock, hbk, _⟩ := hm
    rw [h2] at hbk; cases hbk
  rcases h with h | h
  · exact .inl (key _ h)
  · exact .inr (key _ h)
theorem MapIs.keepB {w w' : World} {B b mb : Nat} {L : List (ByteArray × Value)} (h : MapIs w mb L) (k : KeepB B b w w') (hne : mb ≠ b) : MapIs w' mb L := by
  obtain ⟨es, clock, hb, r⟩ := h
  exact ⟨es, clock, (k.other mb (Array.getElem?_eq_some_iff.1 hb).1 hne (fun c fr e => by rw [hb] at e; cases e)).trans hb, r⟩
theorem arcT_size : ∀ (fs : List FileT) (z : ByteArray), (∀ f ∈ fs, f.1.size ≤ 1000000 ∧ f.2.size ≤ 1000000) → (arcT fs z).size ≤ z.size + fs.length * 2000040
  | [], z, h => by simp [arcT]
  | f :: fs, z, h => by
    obtain ⟨h1, h2⟩ := h f (by simp)
    have e : arcT (f :: fs) z = arcT fs (z ++ (txt f.1 ++ txt f.2)) := rfl
    have := arcT_size fs (z ++ (txt f.1 ++ txt f.2)) (fun g hg => h g (by simp [hg]))
    have h3 := txt_size f.1 (by omega)
    have h4 := txt_size f.2 (by omega)
    rw [e]
    rw [ByteArray.size_append, ByteArray.size_append] at this
    simp only [List.length_cons]; omega
/-- the names of the files are the keys -/
def KnownIs (fs : List FileT) (k : Nat) (seen : List ByteArray) : Prop := ∀ x, x ∈ seen ↔ x ∈ (fs.take k).map (·.1)
theorem info_file : (Tryz.prog.info? 41).map (fun i => (i.zero, i.size)) = some (some (.agg #[.string ⟨#[]⟩, .string ⟨#[]⟩]), 2) := by kernel_rfl
theorem named_is (s : ByteArray) (b : Bool) (H : Hd (nameP s = b)) (w : World) (hs : s.size ≤ 9223372036854775807) (hg : GV w) : Calls Tryz.prog 56 #[.string s] w fun e w' => e = .returned (.bool b) ∧ Ext w w' := by
  rw [← H.out]; exact named_any s w hs hg
theorem under_iff {s : ByteArray} {known : List ByteArray} : under s known = true ↔ ∃ k, k < s.size ∧ byt s k = 47 ∧ s.extract 0 k ∈ known := by
  unfold under
  rw [List.any_eq_true]
  constructor
  · rintro ⟨k, hk, h⟩
    rw [Bool.and_eq_true, List.any_eq_true] at h
    obtain ⟨h1, x, hx, h2⟩ := h
    simp only [decide_eq_true_eq] at h2
    subst h2
    exact ⟨k, List.mem_range.1 hk, by simpa using h1, hx⟩
  · rintro ⟨k, hk, h1, h2⟩
    refine ⟨k, List.mem_range.2 hk, ?_⟩
    rw [Bool.and_eq_true, List.any_eq_true]
    exact ⟨by simpa using h1, _, h2, by simp⟩
theorem arcR_bad {fs : List FileT} {n : Int} (h : arcE fs = n) (hn : n ≠ 0) : Ending.returned (.tuple #[.agg objZ, .int .i64 n]) = .returned (arcR fs) := by
  rw [arcR, h, if_neg hn]
set_option maxRecDepth 100000 in
set_option maxHeartbeats 4000000 in
theorem archive_any (fs : List FileT) (A : Option Addr) (c : Nat) (w : World) (hn : fs.length ≤ 1000) (hB : ∀ f ∈ fs, f.1.size ≤ 1000000 ∧ f.2.size ≤ 1000000) (hA : RowAt w A (fcells fs)) (hg : GV w) :
    Calls Tryz.prog 19 #[.slice A fs.length c] w fun e w' => e = .returned (arcR fs) ∧ Ext w w' := by
  have hu := uvs_size fs.length (by omega)
  have hmm := @run_makeMap Tryz.prog
  have HA := Hd.mk hA; have HB := Hd.mk hB; have HG := Hd.mk hg; clear hA hB hg
  obtain ⟨W, hW⟩ : ∃ W, W = w.alloc (.cells #[.int .i64 0, .slice none 0 0, .string ⟨#[]⟩] 24) := ⟨_, rfl⟩
  have HS0 : W.heap.size = w.heap.size + 1 := by rw [hW]; simp
  have HX0 := Hd.mk (show Ext w W by rw [hW]; exact (Ext.refl w).alloc _)
  have HZ0 := Hd.mk (show W.heap[w.heap.size]? = some (.cells objZ 24 (0, 0)) by rw [hW]; exact heap_alloc_new w _)
  go_enter Tryz.func19, Tryz.ntmps19
  go_wp2_with fail
  rw [← hW]
  have hb0 : Bld (W.alloc (.cells #[.pointer none, .slice none 0 0] 79)) W.heap.size W.heap.size [] := Lib.fresh_isBuilder _ _ W
  have hx0 : Ext W (W.alloc (.cells #[.pointer none, .slice none 0 0] 79)) := (Ext.refl W).alloc _
  refine (objNumber_any _ _ (by omega) (by omega)).mono ?_; rintro e w1 ⟨rfl, hx1⟩
  have HX1 := Hd.mk (hx0.trans hx1)
  have HB1 := Hd.mk (hb0.ext hx1)
  have hs1 := HX1.out.size
  clear hx0 hx1 hb0 hW
  rw [← HS0] at *
  go_wp2_with fail
  refine (writeString W.heap.size W.heap.size [] (uvs fs.length) _ HB1.out (by simp) (by omega) hs1).mono ?_; rintro e w2 ⟨rfl, h2, h3⟩
  rw [List.nil_append] at h2
  have HX2 := Hd.mk (HX1.out.trans' h3.below)
  have H2 := Hd.mk h2
  have hs2 : W.heap.size < w2.heap.size := by
    have := H2.out
    rcases this with h | h
    · exact (Array.getElem?_eq_some_iff.1 h.2.choose_spec.1).1
    · exact (Array.getElem?_eq_some_iff.1 h.2.choose_spec.1).1
  clear h2 h3 HX1 HB1 hs1
  go_wp2_with fail
  obtain ⟨kb, hkb⟩ : ∃ kb, kb = w2.heap.size := ⟨_, rfl⟩
  have HM0 := Hd.mk (MapIs.made w2)
  have HX3 := Hd.mk (HX2.out.trans ((Ext.refl w2).alloc (.map #[] 0)))
  have H3 := Hd.mk (H2.out.ext ((Ext.refl w2).alloc (.map #[] 0)))
  have hs3 : W.heap.size < kb := by omega
  rw [← hkb] at *
  clear HX2 H2
  go_loopw [17] (fun i wr => ∃ (k : Nat) (seen : List ByteArray), i = .int .i64 (k : Int) ∧ k ≤ fs.length ∧ goodK fs k = true ∧ Bld wr W.heap.size W.heap.size (arcT (fs.take k) (uvs fs.length)).data.toList ∧ MapIs wr kb (seenM seen) ∧ Hd (KnownIs fs k seen) ∧ Ext W wr) (fun i _ => fs.length - (intOf i).toNat)
  case atStart => exact ⟨0, [], rfl, by omega, rfl, by simpa [arcT] using H3.out, HM0.out, ⟨by intro x; simp⟩, HX3.out⟩
  case round =>
    clear HM0 HX3 H3
    obtain ⟨k, seen, rfl, hk, hgd, hbl, hm, hkn, hext⟩ := hrel
    by_cases hlt : k < fs.length
    · have hgk : fs[k]? = some fs[k] := List.getElem?_eq_getElem hlt
      obtain ⟨f1, f2⟩ := HB.out _ (List.getElem_mem hlt)
      have hsz := arcT_size (fs.take k) (uvs fs.length) (fun f hf => HB.out f (List.mem_of_mem_take hf))
      rw [List.length_take, Nat.min_eq_left hk] at hsz
      have hbad := arc_bad hgk
      have hsn : arcT (fs.take (k + 1)) (uvs fs.length) = arcT (fs.take k) (uvs fs.length) ++ (txt fs[k].1 ++ txt fs[k].2) := by rw [take_snoc hgk, arcT_snoc]
      have hgn : goodK fs (k + 1) = (goodK fs k && goodF (fs.take k) fs[k]) := by rw [goodK, hgk]
      have hkn1 : KnownIs fs (k + 1) (fs[k].1 :: seen) := by
        intro x
        rw [take_snoc hgk, List.map_append, List.mem_cons, List.mem_append, hkn.out x]
        simp [or_comm]
      obtain ⟨b', o', hix, hc0, hc1⟩ := file_get ((HA.out.ext HX0.out).ext hext) c k hgk
      have hprev : 0 < k → ∃ g b o, fs[k - 1]? = some g ∧ (fs.take k).getLast? = some g ∧ ∀ w', Ext W w' → (Instr.indexAt 34 (.slice A fs.length c) (.int .i64 ((k : Int) - 1))).run Tryz.prog w' = .ok (.pointer (some ⟨b, o, none⟩)) w' ∧ w'.cell? ⟨b, o, none⟩ = some (.string g.1) := by
        intro h0
        have hg1 : fs[k - 1]? = some fs[k - 1] := List.getElem?_eq_getElem (by omega)
        obtain ⟨b, o, h1, h2, h3⟩ := file_get (HA.out.ext HX0.out) c (k - 1) hg1
        refine ⟨_, b, o, hg1, ?_, fun w' hx => ⟨?_, ?_⟩⟩
        · rw [List.getLast?_take]; simp; omega
        · have := h1 w'
          rwa [show ((k - 1 : Nat) : Int) = (k : Int) - 1 by omega] at this
        · obtain ⟨b2, o2, g1, g2, g3⟩ := file_get ((HA.out.ext HX0.out).ext hx) c (k - 1) hg1
          have e1 := h1 w; have e2 := g1 w
          rw [e1] at e2; injection e2 with e2; injection e2 with e2; injection e2 with e2; injection e2 with e2 e3
          rw [e2, e3]; exact g2
      have hix' := hix wr
      generalize fs[k] = f at *
      have HGK := Hd.mk hgk; have HGD := Hd.mk hgd; have HSZ := Hd.mk hsz; have HBAD := Hd.mk hbad; have HSN := Hd.mk hsn; have HGN := Hd.mk hgn; have HKN1 := Hd.mk hkn1; have HPR := Hd.mk hprev; have HBL := Hd.mk hbl; have HM := Hd.mk hm
      clear hgk hgd hsz hbad hsn hgn hkn1 hprev hbl hm hix
      go_wp2_with fail
      obtain ⟨F, hF⟩ : ∃ F, F = wr.heap.size := ⟨_, rfl⟩
      obtain ⟨w5, hw5⟩ : ∃ w5, w5 = wr.alloc (.cells #[.string f.1, .string f.2] 41) := ⟨_, rfl⟩
      have h5 : w5.heap[F]? = some (.cells #[.string f.1, .string f.2] 41 (0, 0)) := by rw [hw5, hF]; exact heap_alloc_new wr _
      have hx5 : Ext wr w5 := by rw [hw5]; exact (Ext.refl wr).alloc _
      have d0 : ∀ w6, Ext w5 w6 → w6.cell? ⟨F, 0, none⟩ = some (.string f.1) ∧ w6.cell? ⟨F, 1, none⟩ = some (.string f.2) ∧ Ext W w6 := fun w6 hx => ⟨cell_of (hx.obj h5) rfl, cell_of (hx.obj h5) rfl, (hext.trans hx5).trans hx⟩
      have D0 := Hd.mk d0
      have HM5 := Hd.mk (HM.out.ext hx5); have HB5 := Hd.mk (HBL.out.ext hx5)
      have HG5 := Hd.mk (GV.ext (HG.out.ext HX0.out) (hext.trans hx5))
      have HF5 := Hd.mk h5
      have hkF : F ≠ kb := by have := HM.out.lt; omega
      have hFb : F ≠ W.heap.size := by have := HM.out.lt; omega
      rw [← hw5, ← hF]
      clear hw5 hF h5 hx5 d0 hix' hc0 hc1
      cases hnp : nameP f.1 with
      | false =>
        have HNP := Hd.mk hnp; clear hnp
        refine wp_region_pi (fun w' => w'.cell? ⟨F, 0, none⟩ = some (.string f.1) ∧ w'.cell? ⟨F, 1, none⟩ = some (.string f.2) ∧ Ext W w') [(true, 0), (true, 1), (false, 2), (true, 3), (true, 4), (true, 5), (true, 6), (true, 7), (true, 8), (true, 9), (true, 10), (true, 11), (true, 12), (true, 13), (true, 14), (true, 15), (true, 16), (true, 17), (true, 18)] (by kernel_rfl) (by kernel_rfl) (by intro c a d v w h; cases d <;> exact h) ?_
        iterate 2 (refine pi_still rfl (D0.out _ ((Ext.refl w5).drew)) rfl (fun w' hS => by obtain ⟨s0, s1, s2⟩ := hS; go_simp; rfl) ?_; intro K hK; go_simp; refine hK _ _ ?_; clear hK K)
        refine pi_act rfl rfl ?_; intro K hK; go_simp; refine (named_is f.1 false HNP _ (by omega) (HG5.out.ext ((Ext.refl w5).drew))).mono ?_; rintro e w6 ⟨rfl, hx6⟩
        have HX6 := Hd.mk ((Ext.refl w5).drew.trans hx6); clear hx6
        refine hK _ _ (D0.out _ HX6.out) ?_; clear hK K
        iterate 2 (refine pi_still rfl (D0.out _ HX6.out) rfl (fun w' hS => by go_simp; rfl) ?_; intro K hK; go_simp; refine hK _ _ ?_; clear hK K)
        iterate 13 (refine pi_skip rfl (D0.out _ HX6.out) rfl ?_; intro K hK; go_simp; refine hK _ _ ?_; clear hK K)
        refine pi_still rfl (D0.out _ HX6.out) rfl (fun w' hS => by go_simp; rfl) ?_; intro K hK; go_simp; refine hK _ _ ?_; clear hK K
        refine pi_nil ?_
        have HXX := Hd.mk (D0.out _ HX6.out).2.2
        go_wp2_with (refine stRow 24 w.heap.size objZ ?_ ?_ 24 objZ ?_ ?_ ?_ ?_ ?_; rfl; rfl; exact HXX.out.obj HZ0.out; exact size_obj; rfl; exact objZ_one)
        refine bodyPost_ret (v := .tuple #[.agg objZ, .int .i64 4]) ?_ (by rfl) ?_
        · exact ret_cell_tmp (p := 2) (u := 3) (ty := 24) rfl _ _ w.heap.size 24 objZ _ _ (by rfl) (by rfl) (row_block (HXX.out.obj HZ0.out)) Tryz.underlying24 rfl size_obj
        · exact ⟨arcR_bad (HBAD.out (by rw [goodF, HNP.out]; rfl)) (by decide), (HX0.out.trans HXX.out).row (Nat.le_refl _) _⟩
      | true =>
        have HNP := Hd.mk hnp; clear hnp
        have hc : k = 0 ∨ ∃ g b o, 0 < k ∧ Hd ((fs.take k).getLast? = some g) ∧ Hd (∀ w', Ext W w' → (Instr.indexAt 34 (.slice A fs.length c) (.int .i64 ((k : Int) - 1))).run Tryz.prog w' = .ok (.pointer (some ⟨b, o, none⟩)) w' ∧ w'.cell? ⟨b, o, none⟩ = some (.string g.1)) := by
          rcases Nat.eq_zero_or_pos k with h | h
          · exact .inl h
          · obtain ⟨g, b, o, _, h2, h3⟩ := HPR.out h
            exact .inr ⟨g, b, o, h, ⟨h2⟩, ⟨h3⟩⟩
        clear HPR
        refine wp_region_pi (fun w' => w'.cell? ⟨F, 0, none⟩ = some (.string f.1) ∧ w'.cell? ⟨F, 1, none⟩ = some (.string f.2) ∧ Ext W w') [(true, 0), (true, 1), (false, 2), (true, 3), (true, 4), (true, 5), (true, 6), (true, 7), (true, 8), (true, 9), (true, 10), (true, 11), (true, 12), (true, 13), (true, 14), (true, 15), (true, 16), (true, 17), (true, 18)] (by kernel_rfl) (by kernel_rfl) (by intro c a d v w h; cases d <;> exact h) ?_
        iterate 2 (refine pi_still rfl (D0.out _ ((Ext.refl w5).drew)) rfl (fun w' hS => by obtain ⟨s0, s1, s2⟩ := hS; go_simp; rfl) ?_; intro K hK; go_simp; refine hK _ _ ?_; clear hK K)
        refine pi_act rfl rfl ?_; intro K hK; go_simp; refine (named_is f.1 true HNP _ (by omega) (HG5.out.ext ((Ext.refl w5).drew))).mono ?_; rintro e w6 ⟨rfl, hx6⟩
        have HX6 := Hd.mk ((Ext.refl w5).drew.trans hx6); clear hx6
        refine hK _ _ (D0.out _ HX6.out) ?_; clear hK K
        iterate 2 (refine pi_still rfl (D0.out _ HX6.out) rfl (fun w' hS => by obtain ⟨s0, s1, s2⟩ := hS; go_simp; rfl) ?_; intro K hK; go_simp; refine hK _ _ ?_; clear hK K)
        have HC : (k = 0 ∨ ∃ g b o, 0 < k ∧ Op.bytesLess g.1.toList f.1.toList = true ∧ Hd ((fs.take k).getLast? = some g) ∧ Hd (∀ w', Ext W w' → (Instr.indexAt 34 (.slice A fs.length c) (.int .i64 ((k : Int) - 1))).run Tryz.prog w' = .ok (.pointer (some ⟨b, o, none⟩)) w' ∧ w'.cell? ⟨b, o, none⟩ = some (.string g.1))) ∨ ∃ g b o, 0 < k ∧ Op.bytesLess g.1.toList f.1.toList = false ∧ Hd ((fs.take k).getLast? = some g) ∧ Hd (∀ w', Ext W w' → (Instr.indexAt 34 (.slice A fs.length c) (.int .i64 ((k : Int) - 1))).run Tryz.prog w' = .ok (.pointer (some ⟨b, o, none⟩)) w' ∧ w'.cell? ⟨b, o, none⟩ = some (.string g.1)) := by
          rcases hc with h | ⟨g, b, o, h1, h2, h3⟩
          · exact .inl (.inl h)
          · cases hb : Op.bytesLess g.1.toList f.1.toList with
            | true => exact .inl (.inr ⟨g, b, o, h1, hb, h2, h3⟩)
            | false => exact .inr ⟨g, b, o, h1, hb, h2, h3⟩
        clear hc
        rcases HC with HC | ⟨g, b, o, hk0, hbl, HL, HP⟩
        case inr =>
          have hk1 : (k : Int) > 0 := by omega
          have hwr : IntKind.i64.wrap ((k : Int) - 1) = (k : Int) - 1 := IntWalk.i64_in _ (by omega)
          iterate 3 (refine pi_still rfl (D0.out _ HX6.out) rfl (fun w' hS => by obtain ⟨s0, s1, s2⟩ := hS; go_simp; rfl) ?_; intro K hK; go_simp; refine hK _ _ ?_; clear hK K)
          iterate 10 (refine pi_still rfl (D0.out _ HX6.out) rfl (fun w' hS => by obtain ⟨s0, s1, s2⟩ := hS; obtain ⟨p1, p2⟩ := HP.out w' s2; go_simp; rfl) ?_; intro K hK; go_simp; refine hK _ _ ?_; clear hK K)
          iterate 1 (refine pi_still rfl (D0.out _ HX6.out) rfl (fun w' hS => by obtain ⟨s0, s1, s2⟩ := hS; go_simp; rfl) ?_; intro K hK; go_simp; refine hK _ _ ?_; clear hK K)
          refine pi_nil ?_
          have HXX := Hd.mk (D0.out _ HX6.out).2.2
          go_wp2_with (refine stRow 24 w.heap.size objZ ?_ ?_ 24 objZ ?_ ?_ ?_ ?_ ?_; rfl; rfl; exact HXX.out.obj HZ0.out; exact size_obj; rfl; exact objZ_one)
          refine bodyPost_ret (v := .tuple #[.agg objZ, .int .i64 4]) ?_ (by rfl) ?_
          · exact ret_cell_tmp (p := 2) (u := 3) (ty := 24) rfl _ _ w.heap.size 24 objZ _ _ (by rfl) (by rfl) (row_block (HXX.out.obj HZ0.out)) Tryz.underlying24 rfl size_obj
          · exact ⟨arcR_bad (HBAD.out (by rw [goodF, HNP.out, HL.out]; simp only [ltB, hbl]; rfl)) (by decide), (HX0.out.trans HXX.out).row (Nat.le_refl _) _⟩
        have HGF : Hd (goodF (fs.take k) f = !under f.1 ((fs.take k).map (·.1))) := by
          refine ⟨?_⟩
          rcases HC with rfl | ⟨g, b, o, hk0, hbl, HL, HP⟩
          · rw [goodF, HNP.out]; rfl
          · rw [goodF, HNP.out, HL.out]; simp only [ltB, hbl, Bool.true_and]
        rcases HC with hk0 | ⟨g, b, o, hk0, hbl, HL, HP⟩
        focus
          have hk1 : ¬ (k : Int) > 0 := by omega
          iterate 3 (refine pi_still rfl (D0.out _ HX6.out) rfl (fun w' hS => by obtain ⟨s0, s1, s2⟩ := hS; go_simp; rfl) ?_; intro K hK; go_simp; refine hK _ _ ?_; clear hK K)
          iterate 9 (refine pi_skip rfl (D0.out _ HX6.out) rfl ?_; intro K hK; go_simp; refine hK _ _ ?_; clear hK K)
          iterate 2 (refine pi_still rfl (D0.out _ HX6.out) rfl (fun w' hS => by obtain ⟨s0, s1, s2⟩ := hS; go_simp; rfl) ?_; intro K hK; go_simp; refine hK _ _ ?_; clear hK K)
          refine pi_nil ?_
          clear hk1
        rotate_left
        focus
          have hk1 : (k : Int) > 0 := by omega
          have hwr : IntKind.i64.wrap ((k : Int) - 1) = (k : Int) - 1 := IntWalk.i64_in _ (by omega)
          iterate 3 (refine pi_still rfl (D0.out _ HX6.out) rfl (fun w' hS => by obtain ⟨s0, s1, s2⟩ := hS; go_simp; rfl) ?_; intro K hK; go_simp; refine hK _ _ ?_; clear hK K)
          iterate 10 (refine pi_still rfl (D0.out _ HX6.out) rfl (fun w' hS => by obtain ⟨s0, s1, s2⟩ := hS; obtain ⟨p1, p2⟩ := HP.out w' s2; go_simp; rfl) ?_; intro K hK; go_simp; refine hK _ _ ?_; clear hK K)
          iterate 1 (refine pi_still rfl (D0.out _ HX6.out) rfl (fun w' hS => by obtain ⟨s0, s1, s2⟩ := hS; go_simp; rfl) ?_; intro K hK; go_simp; refine hK _ _ ?_; clear hK K)
          refine pi_nil ?_
          clear hk1 hwr hbl HL HP
        all_goals
          have d6 := D0.out _ HX6.out
          obtain ⟨d60, d61, d62⟩ := d6
          have HM6 := Hd.mk (HM5.out.ext HX6.out); have HB6 := Hd.mk (HB5.out.ext HX6.out)
          have hne := fun i (hi : i < f.1.size) => name_ascii HNP.out i hi
          have hns := name_size HNP.out
          have HE6 := Hd.mk (show ∀ j, Ext w6 (w6.iter f.1 j) from fun j => (Ext.refl w6).alloc _)
          clear HM5 HB5 HG5
          go_wp2
          go_loopw [8] (fun _ wr => ∃ pos, pos ≤ f.1.size ∧ wr = w6.iter f.1 pos ∧ Hd (∀ j < pos, byt f.1 j = 47 → f.1.extract 0 j ∉ seen)) (fun _ wr => match wr.heap[w6.heap.size]? with | some (.stringIter _ pos) => f.1.size - pos | _ => 0)
          case atStart => exact ⟨0, Nat.zero_le _, rfl, ⟨fun j hj => by omega⟩⟩
          case round =>
            obtain ⟨pos, hpos, rfl, hno⟩ := hrel
            have M0 : Hd (∀ j, (w6.iter f.1 j).heap[w6.heap.size]? = some (.stringIter f.1 j)) := ⟨fun j => World.iter_heap w6 _ j⟩
            by_cases hp : pos < f.1.size
            · have h128 := hne pos hp
              have hnx : ∀ ty, (Instr.next (.pointer (some ⟨w6.heap.size, 0, none⟩)) true ty).run Tryz.prog (w6.iter f.1 pos) = .ok (.tuple #[.bool true, .int .i64 pos, .int .i32 (byt f.1 pos : Int)]) (w6.iter f.1 (pos + 1)) := fun ty => by
                have := run_next_ascii (P := Tryz.prog) w6 f.1 pos ty hp (by rw [byt_get]; exact h128)
                rw [byt_get] at this; exact this
              obtain ⟨e0, e1, e2⟩ := D0.out _ (HX6.out.trans (HE6.out (pos + 1)))
              have hlk0 := (HM6.out.ext (HE6.out (pos + 1))).look1 Tryz.underlying63 Tryz.underlying9 (z := .bool false) (e := 4) (by rfl) (f.1.extract 0 pos)
              by_cases h47 : byt f.1 pos = 47
              · by_cases hin : f.1.extract 0 pos ∈ seen
                · rw [seen_in hin] at hlk0
                  simp only [Option.getD_some] at hlk0
                  have HIN := Hd.mk hin; have H47 := Hd.mk h47
                  rw [h47] at hnx
                  clear hin h47 hne d60 d61 d62 HB6 HM6
                  have HXX := Hd.mk e2
                  go_wp2_with (refine stRow 24 w.heap.size objZ ?_ ?_ 24 objZ ?_ ?_ ?_ ?_ ?_; rfl; rfl; exact HXX.out.obj HZ0.out; exact size_obj; rfl; exact objZ_one)
                  refine bodyPost_ret (v := .tuple #[.agg objZ, .int .i64 4]) ?_ (by rfl) ?_
                  · exact ret_cell_tmp (p := 2) (u := 3) (ty := 24) rfl _ _ w.heap.size 24 objZ _ _ (by rfl) (by rfl) (row_block (HXX.out.obj HZ0.out)) Tryz.underlying24 rfl size_obj
                  · refine ⟨arcR_bad (HBAD.out ?_) (by decide), (HX0.out.trans HXX.out).row (Nat.le_refl _) _⟩
                    rw [HGF.out, Bool.not_eq_false', under_iff]
                    exact ⟨pos, hp, H47.out, (hkn.out _).1 HIN.out⟩
                · rw [seen_out hin] at hlk0
                  simp only [Option.getD_none] at hlk0
                  have hno1 : Hd (∀ j < pos + 1, byt f.1 j = 47 → f.1.extract 0 j ∉ seen) := ⟨fun j hj h => by
                    rcases Nat.lt_or_ge j pos with h1 | h1
                    · exact hno.out j h1 h
                    · obtain rfl : j = pos := by omega
                      exact hin⟩
                  rw [h47] at hnx
                  clear hin h47 hno
                  go_wp2
                  go_roundw
                  case rel => exact ⟨pos + 1, by omega, rfl, hno1⟩
                  case measure => rw [M0.out, M0.out]; simp only; omega
              · have h47' : ¬ (byt f.1 pos : Int) = 47 := by omega
                have hno1 : Hd (∀ j < pos + 1, byt f.1 j = 47 → f.1.extract 0 j ∉ seen) := ⟨fun j hj h => by
                    rcases Nat.lt_or_ge j pos with h1 | h1
                    · exact hno.out j h1 h
                    · obtain rfl : j = pos := by omega
                      exact absurd h h47⟩
                clear h47 hno hlk0
                go_wp2
                go_roundw
                case rel => exact ⟨pos + 1, by omega, rfl, hno1⟩
                case measure => rw [M0.out, M0.out]; simp only; omega
            · obtain rfl : pos = f.1.size := by omega
              have hnx : ∀ ty, (Instr.next (.pointer (some ⟨w6.heap.size, 0, none⟩)) true ty).run Tryz.prog (w6.iter f.1 f.1.size) = .ok (.tuple #[.bool false]) (w6.iter f.1 f.1.size) := fun ty => run_next_end w6 f.1 _ ty hp
              obtain ⟨e0, e1, e2⟩ := D0.out _ (HX6.out.trans (HE6.out f.1.size))
              have HM7 := Hd.mk (HM6.out.ext (HE6.out f.1.size))
              have HB7 := Hd.mk (HB6.out.ext (HE6.out f.1.size))
              have HF7 := Hd.mk ((HX6.out.trans (HE6.out f.1.size)).obj HF5.out)
              have HU : Hd (under f.1 ((fs.take k).map (·.1)) = false) := ⟨by
                cases hu : under f.1 ((fs.take k).map (·.1)) with
                | false => rfl
                | true =>
                  obtain ⟨j, h1, h2, h3⟩ := under_iff.1 hu
                  exact absurd ((hkn.out _).2 h3) (hno.out j h1 h2)⟩
              obtain ⟨seen1, hnn, hs1, hkn2⟩ : ∃ seen1, (getM (seenM seen) f.1 = none ∨ getM (seenM seen) f.1 = some (.bool true)) ∧ (if getM (seenM seen) f.1 = none then seenM seen ++ [(f.1, .bool true)] else seenM seen) = seenM seen1 ∧ Hd (KnownIs fs (k + 1) seen1) := by
                by_cases hin : f.1 ∈ seen
                · refine ⟨seen, .inr (seen_in hin), by rw [seen_in hin]; rfl, ⟨fun x => ?_⟩⟩
                  rw [← HKN1.out x, List.mem_cons]
                  constructor
                  · exact .inr
                  · rintro (rfl | h)
                    · exact hin
                    · exact h
                · refine ⟨seen ++ [f.1], .inl (seen_out hin), by rw [seen_out hin]; simp [seenM], ⟨fun x => ?_⟩⟩
                  rw [← HKN1.out x, List.mem_cons, List.mem_append, List.mem_singleton, or_comm]
              have HEW := Hd.mk e2; have HNN := Hd.mk hnn; have HS1 := Hd.mk hs1
              clear HM6 HB6 hne hno hnn hs1 HKN1 hkn d60 d61 d62
              go_wp2_with (refine mapPut HM7.out Tryz.underlying63 Tryz.underlying9 f.1 (.bool true) ?_ ?_ ?_ ?_ ?_; exact HNN.out; rfl; rfl; rfl; intro w7 hm8 hb8; rw [HS1.out] at hm8; have HM8 := Hd.mk hm8; have HB8 := Hd.mk (HB7.out.map HM7.out hb8); have HX8 := Hd.mk (But.ext HEW.out hb8 (by omega)); have HF8 := Hd.mk (But.other hb8 hkF HF7.out); clear hm8 hb8)
              have d8 : ∀ w8, Ext w7 w8 → w8.cell? ⟨F, 0, none⟩ = some (.string f.1) ∧ w8.cell? ⟨F, 1, none⟩ = some (.string f.2) := fun w8 hx => ⟨cell_of (hx.obj HF8.out) rfl, cell_of (hx.obj HF8.out) rfl⟩
              have D8 := Hd.mk d8; clear d8
              clear HM7 HB7 HF7 HS1 HNN HEW e0 e1 e2 D0 HX6 hnx
              refine wp_region_pi (fun w' => w'.cell? ⟨F, 0, none⟩ = some (.string f.1) ∧ w'.cell? ⟨F, 1, none⟩ = some (.string f.2)) [(true, 0), (true, 1), (true, 3), (true, 4), (false, 2), (false, 5), (true, 6), (false, 7)] (by kernel_rfl) (by kernel_rfl) (by intro c a d v w h; cases d <;> exact h) ?_
              iterate 4 (refine pi_still rfl (D8.out _ ((Ext.refl w7).drew)) rfl (fun w' hS => by obtain ⟨s0, s1⟩ := hS; go_simp; rfl) ?_; intro K hK; go_simp; refine hK _ _ ?_; clear hK K)
              refine pi_act rfl rfl ?_; intro K hK; go_simp; refine (text_any f.1 _ (by omega)).mono ?_; rintro e w8 ⟨rfl, hx8⟩
              have HX9 := Hd.mk ((Ext.refl w7).drew.trans hx8); clear hx8
              refine hK _ _ (D8.out _ HX9.out) ?_; clear hK K
              refine pi_act rfl rfl ?_; intro K hK; go_simp; refine (text_any f.2 _ (by omega)).mono ?_; rintro e w9 ⟨rfl, hx9⟩
              have HX10 := Hd.mk (HX9.out.trans hx9); clear hx9
              refine hK _ _ (D8.out _ HX10.out) ?_; clear hK K
              have hz1 := txt_size f.1 (by omega)
              have hz2 := txt_size f.2 (by omega)
              have hsz := HSZ.out
              have hBd := HB8.out.ext HX10.out
              have hsn := HSN.out
              clear HSZ HSN HB8
              generalize txt f.1 = z1 at *
              generalize txt f.2 = z2 at *
              generalize arcT (fs.take k) (uvs fs.length) = acc at *
              have hcat : ¬ 9223372036854775807 < z1.size + z2.size := by omega
              have hacc : acc.data.toList.length ≤ 10000000000 := by rw [data_len]; omega
              have hzz : (z1 ++ z2).size ≤ 10000000000 := by rw [ByteArray.size_append]; omega
              have hw10 := (HX8.out.trans HX10.out).size
              have HBD := Hd.mk hBd; have HSN := Hd.mk hsn; clear hBd hsn
              refine pi_still rfl (D8.out _ HX10.out) rfl (fun w' hS => by go_simp; rfl) ?_; intro K hK; go_simp; refine hK _ _ ?_; clear hK K
              refine pi_act rfl rfl ?_; intro K hK; go_simp; refine (writeString W.heap.size W.heap.size acc.data.toList (z1 ++ z2) _ HBD.out hacc hzz hw10).mono ?_; rintro e w10 ⟨rfl, h11, h12⟩
              rw [ba_app, ← HSN.out] at h11
              have HB11 := Hd.mk h11
              have HM11 := Hd.mk ((HM8.out.ext HX10.out).keepB h12 (by omega))
              have HX11 := Hd.mk ((HX8.out.trans HX10.out).trans' h12.below)
              have d11 : w10.cell? ⟨F, 0, none⟩ = some (.string f.1) ∧ w10.cell? ⟨F, 1, none⟩ = some (.string f.2) := by
                have hFF := HX10.out.obj HF8.out
                have hk := h12.other F (Array.getElem?_eq_some_iff.1 hFF).1 hFb (by
                  intro c fr e
                  rw [hFF] at e
                  injection e with e
                  injection e with _ e
                  exact absurd e (by decide))
                exact ⟨cell_of (hk.trans hFF) rfl, cell_of (hk.trans hFF) rfl⟩
              refine hK _ _ d11 ?_; clear hK K
              refine pi_nil ?_
              clear h11 h12 d11
              go_wp2
              go_roundw
              case rel => exact ⟨k + 1, seen1, by go_num, by omega, by rw [HGN.out, HGD.out, HGF.out, HU.out]; rfl, HB11.out, HM11.out, hkn2, HX11.out⟩
              case measure => simp only [intOf]; omega
    · obtain rfl : k = fs.length := by omega
      rw [List.take_length] at hbl
      have hl : (Lib.byteCells (arcT fs (uvs fs.length)).data.toList).length = (arcB fs).size := by simp [Lib.byteCells, data_len, arcB]
      have HBL := Hd.mk hbl; have HXX := Hd.mk hext; have HGD := Hd.mk hgd; have HLN := Hd.mk hl
      clear hbl hext hgd hm hl
      by_cases h32 : 32 < fs.length
      · have HE : Hd (arcE fs = 7) := ⟨by rw [arcE, if_pos HGD.out, if_pos (.inl h32)]⟩
        have h32' : (fs.length : Int) > 32 := by omega
        go_wp2_with (refine stRow 24 w.heap.size objZ ?_ ?_ 24 objZ ?_ ?_ ?_ ?_ ?_; rfl; rfl; exact HXX.out.obj HZ0.out; exact size_obj; rfl; exact objZ_one)
        refine bodyPost_ret (v := .tuple #[.agg objZ, .int .i64 7]) ?_ (by rfl) ?_
        · exact ret_cell_tmp (p := 2) (u := 3) (ty := 24) rfl _ _ w.heap.size 24 objZ _ _ (by rfl) (by rfl) (row_block (HXX.out.obj HZ0.out)) Tryz.underlying24 rfl size_obj
        · exact ⟨arcR_bad (HE.out) (by decide), (HX0.out.trans HXX.out).row (Nat.le_refl _) _⟩
      · have h32' : ¬ (fs.length : Int) > 32 := by omega
        have hsb := HXX.out.size
        by_cases hbig : 65536 < (arcB fs).size
        · have HE : Hd (arcE fs = 7) := ⟨by rw [arcE, if_pos HGD.out, if_pos (.inr hbig)]⟩
          have hbig' : ((arcB fs).size : Int) > 65536 := by omega
          go_wp2_with fail
          refine (Tryz.Builder_Len W.heap.size W.heap.size _ _ HBL.out).mono ?_; rintro e w4 ⟨rfl, rfl⟩
          rw [HLN.out]
          go_wp2_with (refine stRow 24 w.heap.size objZ ?_ ?_ 24 objZ ?_ ?_ ?_ ?_ ?_; rfl; rfl; exact HXX.out.obj HZ0.out; exact size_obj; rfl; exact objZ_one)
          refine bodyPost_ret (v := .tuple #[.agg objZ, .int .i64 7]) ?_ (by rfl) ?_
          · exact ret_cell_tmp (p := 2) (u := 3) (ty := 24) rfl _ _ w.heap.size 24 objZ _ _ (by rfl) (by rfl) (row_block (HXX.out.obj HZ0.out)) Tryz.underlying24 rfl size_obj
          · exact ⟨arcR_bad (HE.out) (by decide), (HX0.out.trans HXX.out).row (Nat.le_refl _) _⟩
        · have HE : Hd (arcE fs = 0) := ⟨by rw [arcE, if_pos HGD.out, if_neg (by intro h; rcases h with h | h <;> omega)]⟩
          have hbig' : ¬ ((arcB fs).size : Int) > 65536 := by omega
          go_wp2_with fail
          refine (Tryz.Builder_Len W.heap.size W.heap.size _ _ HBL.out).mono ?_; rintro e w4 ⟨rfl, rfl⟩
          rw [HLN.out]
          go_wp2_with fail
          refine (Tryz.Builder_String_any W.heap.size W.heap.size _ _ HBL.out hsb).mono ?_; rintro e w5 ⟨rfl, h6⟩
          have HX5 := Hd.mk (HXX.out.trans' h6); clear h6
          go_wp2_with (refine stRow 24 w.heap.size #[.int .i64 0, .slice none 0 0, .string (arcB fs)] ?_ ?_ 24 objZ ?_ ?_ ?_ ?_ ?_; rfl; rfl; exact HX5.out.obj HZ0.out; exact size_obj; rfl; simp [Value.oneCell'])
          refine bodyPost_ret (v := .tuple #[.agg #[.int .i64 0, .slice none 0 0, .string (arcB fs)], .int .i64 0]) ?_ (by rfl) ?_
          · exact ret_cell_tmp (p := 2) (u := 3) (ty := 24) rfl _ _ w.heap.size 24 #[.int .i64 0, .slice none 0 0, .string (arcB fs)] _ _ (by rfl) (by rfl) (row_block (HX5.out.obj HZ0.out)) Tryz.underlying24 rfl size_obj
          · exact ⟨by rw [arcR, if_pos HE.out], (HX0.out.trans HX5.out).row (Nat.le_refl _) _⟩
end Go.Proofs.YtfofapggmoibkaaGreatDoor
