/- The examples of chapter 49: the plain facts. slices.Equal, slices.Contains of strings: contracts over lists. The examples of chapter 49, walked: awake answers true. -/
import Derived.Test.YtfofapggmoibkaaGreatDoorProg
import Derived.Test.YtfofapggmoibkaaGreatDoorFileY
import Derived.Test.YtfofapggmoibkaaGreatDoorFileX
import Derived.Test.YtfofapggmoibkaaGreatDoorSetX
import Derived.Test.YtfofapggmoibkaaGreatDoorShelf
import Derived.Test.YtfofapggmoibkaaGreatDoorFoundB
import Derived.Test.YtfofapggmoibkaaGreatDoorRefX
set_option linter.unusedVariables false
set_option linter.unusedSimpArgs false
namespace Go.Proofs.YtfofapggmoibkaaGreatDoor
open Go Go.RowKit

def ob1 : Obj := ⟨5, [], ⟨#[97, 98]⟩⟩
def e1B : ByteArray := ⟨#[5, 0, 2, 97, 98]⟩
def d1B : ByteArray := sha ⟨#[7, 5, 0, 2, 97, 98]⟩
def ob2 : Obj := ⟨0, [d1B], ⟨#[]⟩⟩
def q1B : ByteArray := digO ob2
theorem enc_ob1 : encB ob1 = e1B := by decide +kernel
theorem valid_ob1 : validB ob1 = true := by decide +kernel
theorem d1_eq : digO ob1 = d1B := by rw [digO, enc_ob1]; rfl
theorem d1_size : d1B.size = 32 := sha_size _
theorem q1_size : q1B.size = 32 := sha_size _
theorem valid_ob2 : validB ob2 = true := by
  simp [validB, ob2, digB, d1_size]
  decide
theorem enc_ob2 : encB ob2 = ⟨#[0, 1, 32]⟩ ++ d1B ++ ⟨#[0]⟩ := by
  have h0 : uvs 0 = ⟨#[0]⟩ := by decide +kernel
  have h1 : uvs 1 = ⟨#[1]⟩ := by decide +kernel
  have h32 : uvs 32 = ⟨#[32]⟩ := by decide +kernel
  have e : encB ob2 = uvs 0 ++ (uvs 1 ++ (uvs d1B.size ++ d1B)) ++ (uvs 0 ++ ⟨#[]⟩) := rfl
  rw [e, d1_size, h0, h1, h32]
  apply ByteArray.ext
  apply Array.ext'
  simp
theorem q1_ne : q1B ≠ d1B := by
  rw [q1B, digO, enc_ob2]
  unfold d1B
  decide +kernel
theorem encR_ob1 : encR ob1 = .tuple #[.string e1B, .int .i64 0] := by rw [encR, valid_ob1, enc_ob1]; rfl
theorem decO_e1 : decO e1B = some ob1 := by rw [← enc_ob1, decO_eq, refDec_enc valid_ob1]
theorem digR_ob1 : digR ob1 = .tuple #[.string d1B, .int .i64 0] := by rw [digR, valid_ob1, d1_eq]; rfl
theorem digR_ob2 : digR ob2 = .tuple #[.string q1B, .int .i64 0] := by rw [digR, valid_ob2]; rfl
def fs1 : List FileT := [(⟨#[97, 47, 98, 46, 109, 111, 100]⟩, ⟨#[49]⟩), (⟨#[120, 45, 49]⟩, ⟨#[]⟩)]
def fs2 : List FileT := [(⟨#[97]⟩, ⟨#[]⟩), (⟨#[97, 47, 98]⟩, ⟨#[]⟩)]
theorem ltB_list (a b : ByteArray) : ltB a b = Op.bytesLess a.data.toList b.data.toList := by rw [ltB, Go.ByteArray.toList_eq, Go.ByteArray.toList_eq]
theorem arcB_fs1_size : (arcB fs1).size = 16 := by decide +kernel
theorem arcE_fs1 : arcE fs1 = 0 := by
  have n1 : nameP ⟨#[97, 47, 98, 46, 109, 111, 100]⟩ = true := by rw [nameP_list]; decide +kernel
  have n2 : nameP ⟨#[120, 45, 49]⟩ = true := by rw [nameP_list]; decide +kernel
  have g1 : goodF [] (⟨#[97, 47, 98, 46, 109, 111, 100]⟩, ⟨#[49]⟩) = true := by
    simp only [goodF, n1, List.getLast?_nil, List.map_nil]; decide +kernel
  have g2 : goodF [(⟨#[97, 47, 98, 46, 109, 111, 100]⟩, ⟨#[49]⟩)] (⟨#[120, 45, 49]⟩, ⟨#[]⟩) = true := by
    simp only [goodF, n2, List.getLast?_singleton, List.map_cons, List.map_nil, ltB_list]; decide +kernel
  have hg : goodK fs1 fs1.length = true := by
    show (((true && goodF [] (⟨#[97, 47, 98, 46, 109, 111, 100]⟩, ⟨#[49]⟩)) && goodF [(⟨#[97, 47, 98, 46, 109, 111, 100]⟩, ⟨#[49]⟩)] (⟨#[120, 45, 49]⟩, ⟨#[]⟩))) = true
    rw [g1, g2]; rfl
  rw [arcE, if_pos hg, if_neg]
  rw [arcB_fs1_size]; decide
theorem arcE_fs2 : arcE fs2 = 4 := by
  refine arc_bad (k := 1) (f := (⟨#[97, 47, 98]⟩, ⟨#[]⟩)) rfl ?_
  have hu : under ⟨#[97, 47, 98]⟩ [⟨#[97]⟩] = true := by decide +kernel
  have e : (fs2.take 1).map (·.1) = [⟨#[97]⟩] := rfl
  rw [goodF, e, hu]
  simp
theorem arcR_fs1 : arcR fs1 = .tuple #[.agg #[.int .i64 0, .slice none 0 0, .string (arcB fs1)], .int .i64 0] := by rw [arcR, if_pos arcE_fs1]
theorem arcR_fs2 : arcR fs2 = .tuple #[.agg objZ, .int .i64 4] := by rw [arcR, arcE_fs2]; rfl
theorem files_fs1 : filesO ⟨0, [], arcB fs1⟩ = (0, fs1) := files_arc (by intro f hf; simp [fs1] at hf; rcases hf with rfl | rfl <;> decide) arcE_fs1
theorem put1 : putS [] ob1 = [(d1B, ob1)] := by rw [putS, if_pos ⟨valid_ob1, rfl⟩, d1_eq]; rfl
theorem get12 : getS [(d1B, ob1)] q1B = none := by
  have : ¬ (d1B = q1B) := fun e => q1_ne e.symm
  simp [getS, List.find?, this]
theorem put2 : putS [(d1B, ob1)] ob2 = [(d1B, ob1), (q1B, ob2)] := by rw [putS, if_pos ⟨valid_ob2, get12⟩]; rfl
theorem getd : getS [(d1B, ob1), (q1B, ob2)] d1B = some ob1 := by simp [getS]
theorem getq : getS [(d1B, ob1), (q1B, ob2)] q1B = some ob2 := by
  have : ¬ (d1B = q1B) := fun e => q1_ne e.symm
  simp [getS, List.find?, this]
theorem drop1 : [(d1B, ob1), (q1B, ob2)].filter (fun p => !decide (p.1 = d1B)) = [(q1B, ob2)] := by
  simp [q1_ne]
theorem sort1 (x : ByteArray) : sortB [x] = [x] := by simp [sortB]
theorem clos1 {fi fo : List ByteArray} (h : CloSpec [(d1B, ob1), (q1B, ob2)] [q1B] fi fo) : fi.length = 2 ∧ fo.length = 0 := by
  have rq : Reach [(d1B, ob1), (q1B, ob2)] [q1B] q1B := .root (by simp)
  have rd : Reach [(d1B, ob1), (q1B, ob2)] [q1B] d1B := .ref rq getq (by simp [ob2])
  have all : ∀ x, Reach [(d1B, ob1), (q1B, ob2)] [q1B] x → x = d1B ∨ x = q1B := by
    intro x hx
    induction hx with
    | root h => exact .inr (by simpa using h)
    | ref _ hg hy ih =>
      rcases ih with rfl | rfl
      · rw [getd] at hg; cases hg; simp [ob1] at hy
      · rw [getq] at hg; cases hg; left; simpa [ob2] using hy
  have mi : ∀ x, x ∈ fi ↔ x = d1B ∨ x = q1B := by
    intro x
    rw [h.mi]
    constructor
    · exact fun hx => all x hx.1
    · rintro (rfl | rfl)
      · exact ⟨rd, by rw [getd]; rfl⟩
      · exact ⟨rq, by rw [getq]; rfl⟩
  constructor
  · have h1 := nodup_sub fi [d1B, q1B] h.ni (fun x hx => by simpa using (mi x).1 hx)
    have h2 := nodup_sub [d1B, q1B] fi (by simp [Ne.symm q1_ne]) (fun x hx => (mi x).2 (by simpa using hx))
    simp at h1 h2
    omega
  · cases fo with
    | nil => rfl
    | cons x l =>
      have := (h.mo x).1 (by simp)
      rcases all x this.1 with rfl | rfl
      · rw [getd] at this; cases this.2
      · rw [getq] at this; cases this.2
/-- the two digests as letters -/
theorem awake_facts : ∃ d1 q1 : ByteArray, Hd (digR ob1 = .tuple #[.string d1, .int .i64 0]) ∧ Hd (digR ⟨0, [d1], ⟨#[]⟩⟩ = .tuple #[.string q1, .int .i64 0]) ∧ Hd (putS [] ob1 = [(d1, ob1)]) ∧ Hd (putS [(d1, ob1)] ⟨0, [d1], ⟨#[]⟩⟩ = [(d1, ob1), (q1, ⟨0, [d1], ⟨#[]⟩⟩)]) ∧
    Hd (getS [(d1, ob1), (q1, ⟨0, [d1], ⟨#[]⟩⟩)] d1 = some ob1) ∧ Hd ([(d1, ob1), (q1, (⟨0, [d1], ⟨#[]⟩⟩ : Obj))].filter (fun p => !decide (p.1 = d1)) = [(q1, ⟨0, [d1], ⟨#[]⟩⟩)]) ∧ Hd (∀ fi fo, CloSpec [(d1, ob1), (q1, ⟨0, [d1], ⟨#[]⟩⟩)] [q1] fi fo → fi.length = 2 ∧ fo.length = 0) ∧ Hd (q1.size = 32) :=
  ⟨d1B, q1B, ⟨digR_ob1⟩, ⟨digR_ob2⟩, ⟨put1⟩, ⟨put2⟩, ⟨getd⟩, ⟨drop1⟩, ⟨fun _ _ => clos1⟩, ⟨q1_size⟩⟩
end Go.Proofs.YtfofapggmoibkaaGreatDoor
namespace Go.Proofs.YtfofapggmoibkaaGreatDoor
open Go Go.RowKit

theorem StrsAt.getD {w : World} {b off : Nat} {l : List ByteArray} (h : StrsAt w (some ⟨b, off, none⟩) l) : ∀ j, j < l.length → w.cell? ⟨b, off + j, none⟩ = some (.string (l.getD j ByteArray.empty)) := by
  intro j hj
  rcases h with ⟨h, _⟩ | ⟨b', off', h, hc⟩
  · cases h
  · simp only [Option.some.injEq, Addr.mk.injEq, and_true] at h
    obtain ⟨rfl, rfl⟩ := h
    refine hc j _ ?_
    rw [List.getD_eq_getElem?_getD, List.getElem?_eq_getElem hj]; rfl
theorem StrsAt.pos {w : World} {A : Option Addr} {l : List ByteArray} (h : StrsAt w A l) (hl : l.length ≠ 0) : ∃ b off, A = some ⟨b, off, none⟩ := by
  rcases h with ⟨_, rfl⟩ | ⟨b, off, h, _⟩
  · exact absurd rfl hl
  · exact ⟨b, off, h⟩
theorem equalS_any (xs ys : List ByteArray) (A B : Option Addr) (c d : Nat) (w : World) (hx : xs.length ≤ 9223372036854775807) (hy : ys.length ≤ 9223372036854775807) (hA : StrsAt w A xs) (hB : StrsAt w B ys) :
    Calls Tryz.prog 29 #[.slice A xs.length c, .slice B ys.length d] w fun e w' => e = .returned (.bool (decide (xs = ys))) ∧ Ext w w' := by
  by_cases hn : xs.length = ys.length
  · by_cases h0 : xs.length = 0
    · have h0' : ys.length = 0 := by omega
      have e1 := List.eq_nil_of_length_eq_zero h0
      have e2 := List.eq_nil_of_length_eq_zero h0'
      subst e1; subst e2
      refine (Tryz.slices_Equal_string_empty A B c 0 d w (by omega)).mono ?_
      rintro e w' ⟨rfl, rfl⟩
      exact ⟨rfl, Ext.refl _⟩
    · obtain ⟨b, o, rfl⟩ := hA.pos h0
      obtain ⟨b', o', rfl⟩ := hB.pos (by omega)
      refine (Tryz.slices_Equal_string b o xs.length c b' o' ys.length d xs ys w (Nat.le_refl _) (Nat.le_refl _) hx hy hA.getD hB.getD).mono ?_
      rintro e w' ⟨rfl, q, rfl⟩
      rw [List.take_length, List.take_length]
      exact ⟨rfl, (Ext.refl w).drewN q⟩
  · refine (Tryz.slices_Equal_string_lens A B xs.length c ys.length d w hn).mono ?_
    rintro e w' ⟨rfl, rfl⟩
    rw [decide_eq_false (by intro e; exact hn (by rw [e]))]
    exact ⟨rfl, Ext.refl _⟩
theorem equalS_is (xs ys : List ByteArray) (b : Bool) (H : Hd (decide (xs = ys) = b)) (A B : Option Addr) (c d : Nat) (w : World) (hx : xs.length ≤ 9223372036854775807) (hy : ys.length ≤ 9223372036854775807) (hA : StrsAt w A xs) (hB : StrsAt w B ys) :
    Calls Tryz.prog 29 #[.slice A xs.length c, .slice B ys.length d] w fun e w' => e = .returned (.bool b) ∧ Ext w w' := by
  rw [← H.out]; exact equalS_any xs ys A B c d w hx hy hA hB
theorem containsS_any (l : List ByteArray) (x : ByteArray) (A : Option Addr) (c : Nat) (w : World) (hl : l.length ≤ 9223372036854775807) (hA : StrsAt w A l) :
    Calls Tryz.prog 28 #[.slice A l.length c, .string x] w fun e w' => e = .returned (.bool (Lib.containsS l x)) ∧ w' = w := by
  by_cases h0 : l.length = 0
  · have e1 := List.eq_nil_of_length_eq_zero h0
    subst e1
    exact Tryz.slices_Contains_string_empty A c x w
  · obtain ⟨b, o, rfl⟩ := hA.pos h0
    have h := Tryz.slices_Contains_string b o l.length c l x w (Nat.le_refl _) hl hA.getD
    rwa [List.take_length] at h
end Go.Proofs.YtfofapggmoibkaaGreatDoor
namespace Go.Proofs.YtfofapggmoibkaaGreatDoor
open Go Go.RowKit

theorem decode_is (s : ByteArray) (hs : s.size ≤ 1000000) (r : Option Obj) (H : Hd (decO s = r)) (w : World) : Calls Tryz.prog 15 #[.string s] w (DecPost w r 9) := by
  rw [← H.out]; exact decode_any s hs w
theorem files_is (o : Obj) (r : Int × List FileT) (H : Hd (filesO o = r)) (A : Option Addr) (c : Nat) (w : World) (hl : o.refs.length ≤ 9223372036854775807) (hd : o.data.size ≤ 9223372036854775807) (hA : StrsAt w A o.refs) (hg : GV w) :
    Calls Tryz.prog 21 #[.agg #[.int .i64 o.kind, .slice A o.refs.length c, .string o.data]] w (FilesPost w r) := by
  rw [← H.out]; exact files_any o A c w hl hd hA hg
theorem same_is (a b : Obj) (r : Bool) (H : Hd (sameO a b = r)) (A B : Option Addr) (c d : Nat) (w : World) (ha : a.refs.length ≤ 9223372036854775807) (hb : b.refs.length ≤ 9223372036854775807) (hA : StrsAt w A a.refs) (hB : StrsAt w B b.refs) :
    Calls Tryz.prog 17 #[.agg #[.int .i64 a.kind, .slice A a.refs.length c, .string a.data], .agg #[.int .i64 b.kind, .slice B b.refs.length d, .string b.data]] w fun e w' => e = .returned (.bool r) ∧ Ext w w' := by
  rw [← H.out]; exact same_any a b A B c d w ha hb hA hB
theorem equalF_is (fs gs : List FileT) (r : Bool) (H : Hd (decide (fs = gs) = r)) (A A' : Option Addr) (c c' : Nat) (w : World) (hn : fs.length ≤ 1000000) (hn' : gs.length ≤ 1000000) (hA : RowAt w A (fcells fs)) (hA' : RowAt w A' (fcells gs)) :
    Calls Tryz.prog 23 #[.slice A fs.length c, .slice A' gs.length c'] w fun e w' => e = .returned (.bool r) ∧ Ext w w' := by
  rw [← H.out]; exact equalF_any fs gs A A' c c' w hn hn' hA hA'
theorem put_is (sb mb : Nat) (S S' : List (ByteArray × Obj)) (o : Obj) (v : Value) (H : Hd (digR o = v)) (HS : Hd (putS S o = S')) (A : Option Addr) (c : Nat) (w : World) (hS : SetAt w sb mb S) (hl : o.refs.length ≤ 9223372036854775807) (hd : o.data.size ≤ 9223372036854775807) (hA : StrsAt w A o.refs) :
    Calls Tryz.prog 31 #[.pointer (some ⟨sb, 0, none⟩), .agg (objC o A c)] w fun e w' => e = .returned v ∧ SetAt w' sb mb S' ∧ But w w' mb := by
  rw [← H.out, ← HS.out]; exact put_any sb mb S o A c w hS hl hd hA
theorem get_is (sb mb : Nat) (S : List (ByteArray × Obj)) (d : ByteArray) (r : Option Obj) (H : Hd (getS S d = r)) (w : World) (hS : SetAt w sb mb S) (hz : ∀ p ∈ S, p.2.refs.length ≤ 8000000000000) :
    Calls Tryz.prog 37 #[.pointer (some ⟨sb, 0, none⟩), .string d] w (DecPost w r 6) := by
  rw [← H.out]; exact get_any sb mb S d w hS hz
theorem drop_is (sb mb : Nat) (S S' : List (ByteArray × Obj)) (d : ByteArray) (b : Bool) (H : Hd ((getS S d).isSome = b)) (HS : Hd ((S.filter fun p => !decide (p.1 = d)) = S')) (w : World) (hS : SetAt w sb mb S) :
    Calls Tryz.prog 27 #[.pointer (some ⟨sb, 0, none⟩), .string d] w fun e w' => e = .returned (.bool b) ∧ SetAt w' sb mb S' ∧ But w w' mb := by
  rw [← H.out, ← HS.out]; exact drop_any sb mb S d w hS
theorem fs1_at {w : World} {H : Nat} {T : TypeId} (h : w.heap[H]? = some (.cells #[.string ⟨#[97, 47, 98, 46, 109, 111, 100]⟩, .string ⟨#[49]⟩, .string ⟨#[120, 45, 49]⟩, .string ⟨#[]⟩] T (0, 0))) : RowAt w (some ⟨H, 0, none⟩) (fcells fs1) := by
  refine .inr ⟨H, 0, rfl, fun i v hi => ?_⟩
  rw [Nat.zero_add]
  refine cell_of h ?_
  have e : fcells fs1 = [.string ⟨#[97, 47, 98, 46, 109, 111, 100]⟩, .string ⟨#[49]⟩, .string ⟨#[120, 45, 49]⟩, .string ⟨#[]⟩] := rfl
  rw [e] at hi
  simpa using hi
theorem fs2_at {w : World} {H : Nat} {T : TypeId} (h : w.heap[H]? = some (.cells #[.string ⟨#[97]⟩, .string ⟨#[]⟩, .string ⟨#[97, 47, 98]⟩, .string ⟨#[]⟩] T (0, 0))) : RowAt w (some ⟨H, 0, none⟩) (fcells fs2) := by
  refine .inr ⟨H, 0, rfl, fun i v hi => ?_⟩
  rw [Nat.zero_add]
  refine cell_of h ?_
  have e : fcells fs2 = [.string ⟨#[97]⟩, .string ⟨#[]⟩, .string ⟨#[97, 47, 98]⟩, .string ⟨#[]⟩] := rfl
  rw [e] at hi
  simpa using hi
theorem one_at {w : World} {H : Nat} {T : TypeId} {x : ByteArray} (h : w.heap[H]? = some (.cells #[.string x] T (0, 0))) : StrsAt w (some ⟨H, 0, none⟩) [x] := by
  refine .inr ⟨H, 0, rfl, fun i s hi => ?_⟩
  rw [Nat.zero_add]
  refine cell_of h ?_
  cases i with
  | zero => simp at hi; subst hi; rfl
  | succ i => simp at hi
abbrev o1C : Array Value := #[.int .i64 5, .slice none 0 0, .string ⟨#[97, 98]⟩]
set_option maxRecDepth 100000 in
set_option maxHeartbeats 16000000 in
theorem awake_any (w : World) (hg : GV w) : Calls Tryz.prog 9 #[] w fun e w' => e = .returned (.bool true) ∧ Ext w w' := by
  have HG := Hd.mk hg; clear hg
  obtain ⟨d1, q1, K1, K2, K3, K4, K5, K6, K7, K8⟩ := awake_facts
  go_enter Tryz.func9, Tryz.ntmps9
  go_wp2_with (first
    | (refine boxRow 24 objZ ?_ o1C (n := 169) (i := 1) (k := 21) ?_ ?_ ?_ ?_ ?_ ?_; exact info_obj; rfl; decide; rfl; rfl; exact objC_one ob1 none 0; intro w1 h1 hx1 hz1; have H1 := Hd.mk h1; have HX1 := Hd.mk hx1; clear h1 hx1; have D1 : Hd (∀ w', Ext w1 w' → w'.heap[w.heap.size]? = some (.cells o1C 24 (0, 0)) ∧ Ext w w' ∧ GV w') := ⟨fun w' hx => ⟨hx.obj H1.out, HX1.out.trans hx, HG.out.ext (HX1.out.trans hx)⟩⟩; clear H1 HX1)
    | (refine ldRow 24 w.heap.size ?_ 24 o1C _ (D1.out _ (Ext.refl _)).1 Tryz.underlying24 ?_ ?_ ?_; rfl; rfl; exact size_obj))
  refine (encode_is ob1 (.tuple #[.string ⟨#[5, 0, 2, 97, 98]⟩, .int .i64 0]) ⟨encR_ob1⟩ none 0 _ (by decide) (by decide) (.inl ⟨rfl, rfl⟩)).mono ?_; rintro e w2 ⟨rfl, hx2⟩
  have HX2 := Hd.mk hx2; clear hx2
  go_wp2_with fail
  refine (decode_is ⟨#[5, 0, 2, 97, 98]⟩ (by decide) (some ob1) ⟨decO_e1⟩ _).mono ?_; rintro e w3 ⟨hx3, A4, c4, hA4, _, rfl⟩
  have HX3 := Hd.mk (HX2.out.trans hx3); have HA4 := Hd.mk hA4; clear hx3 hA4 HX2
  go_wp2_with (first
    | (refine boxRow 24 objZ ?_ (objC ob1 A4 c4) (n := 169) (i := 4) (k := 30) ?_ ?_ ?_ ?_ ?_ ?_; exact info_obj; rfl; decide; rfl; rfl; exact objC_one _ _ _; intro w4 h4 hx4 hz4; have D4 : Hd (∀ w', Ext w4 w' → w'.heap[w3.heap.size]? = some (.cells (objC ob1 A4 c4) 24 (0, 0)) ∧ StrsAt w' A4 []) := ⟨fun w' hx => ⟨hx.obj h4, HA4.out.ext (hx4.trans hx)⟩⟩; have HX4 := Hd.mk (HX3.out.trans hx4); clear h4 hx4 HA4 HX3)
    | (refine ldRow 24 w.heap.size ?_ 24 o1C _ (D1.out _ HX4.out).1 Tryz.underlying24 ?_ ?_ ?_; rfl; rfl; exact size_obj))
  refine (digest_is ob1 (.tuple #[.string d1, .int .i64 0]) K1 none 0 _ (by decide) (by decide) (.inl ⟨rfl, rfl⟩)).mono ?_; rintro e w5 ⟨rfl, hx5⟩
  have HX5 := Hd.mk hx5; clear hx5
  go_wp2_with fail
  obtain ⟨w6, hw6⟩ : ∃ w6, w6 = w5.alloc (.cells #[.string ⟨#[97, 47, 98, 46, 109, 111, 100]⟩, .string ⟨#[49]⟩, .string ⟨#[120, 45, 49]⟩, .string ⟨#[]⟩] 41) := ⟨_, rfl⟩
  have HX6 := Hd.mk (show Ext w4 w6 by rw [hw6]; exact HX5.out.alloc _)
  have D6 : Hd (∀ w', Ext w6 w' → RowAt w' (some ⟨w5.heap.size, 0, none⟩) (fcells fs1)) := ⟨fun w' hx => (fs1_at (by rw [hw6]; exact heap_alloc_new w5 _)).ext hx⟩
  rw [← hw6]
  clear hw6 HX5
  refine (archive_is fs1 _ ⟨arcR_fs1⟩ (some ⟨w5.heap.size, 0, none⟩) 2 _ (by decide) (by intro f hf; simp [fs1] at hf; rcases hf with rfl | rfl <;> decide) (D6.out _ (Ext.refl _)) (D1.out _ (HX4.out.trans HX6.out)).2.2).mono ?_; rintro e w7 ⟨rfl, hx7⟩
  have HX7 := Hd.mk hx7; clear hx7
  go_wp2_with (first
    | (refine boxRow 24 objZ ?_ #[.int .i64 0, .slice none 0 0, .string (arcB fs1)] (n := 169) (i := 9) (k := 43) ?_ ?_ ?_ ?_ ?_ ?_; exact info_obj; rfl; decide; rfl; rfl; exact objC_one ⟨0, [], arcB fs1⟩ none 0; intro w8 h8 hx8 hz8; have H8 := Hd.mk h8; have HX8 := Hd.mk (HX7.out.trans hx8); clear h8 hx8)
    | (refine ldRow 24 w7.heap.size ?_ 24 _ _ H8.out Tryz.underlying24 ?_ ?_ ?_; rfl; rfl; exact size_obj))
  refine (files_is ⟨0, [], arcB fs1⟩ (0, fs1) ⟨files_fs1⟩ none 0 _ (by simp) (by rw [arcB_fs1_size]; decide) (.inl ⟨rfl, rfl⟩) (D1.out _ ((HX4.out.trans HX6.out).trans HX8.out)).2.2).mono ?_; rintro e w9 ⟨hx9, A11, c11, hA11, rfl⟩
  have HX9 := Hd.mk (HX8.out.trans hx9); have HA11 := Hd.mk hA11; clear hx9 hA11 HX8 H8 HX7
  go_wp2_with fail
  obtain ⟨w10, hw10⟩ : ∃ w10, w10 = w9.alloc (.cells #[.string ⟨#[97]⟩, .string ⟨#[]⟩, .string ⟨#[97, 47, 98]⟩, .string ⟨#[]⟩] 41) := ⟨_, rfl⟩
  have HX10 := Hd.mk (show Ext w9 w10 by rw [hw10]; exact (Ext.refl _).alloc _)
  have D10 : Hd (RowAt w10 (some ⟨w9.heap.size, 0, none⟩) (fcells fs2)) := ⟨fs2_at (by rw [hw10]; exact heap_alloc_new w9 _)⟩
  rw [← hw10]
  clear hw10
  refine (archive_is fs2 _ ⟨arcR_fs2⟩ (some ⟨w9.heap.size, 0, none⟩) 2 _ (by decide) (by intro f hf; simp [fs2] at hf; rcases hf with rfl | rfl <;> decide) D10.out (D1.out _ (((HX4.out.trans HX6.out).trans HX9.out).trans HX10.out)).2.2).mono ?_; rintro e w11 ⟨rfl, hx11⟩
  have HX11 := Hd.mk (HX10.out.trans hx11); clear hx11 HX10 D10
  go_wp2_with (refine boxRow 24 objZ ?_ objZ (n := 169) (i := 13) (k := 55) ?_ ?_ ?_ ?_ ?_ ?_; exact info_obj; rfl; decide; rfl; rfl; exact objZ_one; intro w12 h12 hx12 hz12; have HX12 := Hd.mk (HX11.out.trans hx12); clear h12 hx12)
  refine (newSet_any _).mono ?_; rintro e w13 ⟨rfl, hS13, hx13⟩
  have HX13 := Hd.mk (HX12.out.trans hx13); have HS13 := Hd.mk hS13; clear hx13 hS13 HX11
  have hbm : w.heap.size < w12.heap.size := by have a1 := HX4.out.size; have a2 := HX6.out.size; have a3 := HX9.out.size; have a4 := HX12.out.size; omega
  generalize hsb : w12.heap.size + 1 = sb at *
  generalize hmb : w12.heap.size = mb at *
  have D13 : Hd (∀ w', Ext w13 w' → w'.heap[w.heap.size]? = some (.cells o1C 24 (0, 0)) ∧ Ext w w' ∧ w'.heap[w3.heap.size]? = some (.cells (objC ob1 A4 c4) 24 (0, 0)) ∧ StrsAt w' A4 [] ∧ RowAt w' (some ⟨w5.heap.size, 0, none⟩) (fcells fs1) ∧ RowAt w' A11 (fcells fs1)) := ⟨fun w' hx => by
    have h1 := D1.out _ ((((HX4.out.trans HX6.out).trans HX9.out).trans HX13.out).trans hx)
    have h4 := D4.out _ (((HX6.out.trans HX9.out).trans HX13.out).trans hx)
    exact ⟨h1.1, h1.2.1, h4.1, h4.2, D6.out _ ((HX9.out.trans HX13.out).trans hx), HA11.out.ext (HX13.out.trans hx)⟩⟩
  clear D4 D6 HA11 HX4 HX6 HX9 HX12 HX13
  have d13 := D13.out _ (Ext.refl _)
  have q10 := cell_of d13.1 (j := 0) (v := .int .i64 5) rfl
  have q11 := cell_of d13.1 (j := 1) (v := .slice none 0 0) rfl
  have q12 := cell_of d13.1 (j := 2) (v := .string ⟨#[97, 98]⟩) rfl
  have q40 := cell_of d13.2.2.1 (j := 0) (v := .int .i64 5) rfl
  have q41 := cell_of d13.2.2.1 (j := 1) (v := .slice A4 0 c4) rfl
  have q42 := cell_of d13.2.2.1 (j := 2) (v := .string ⟨#[97, 98]⟩) rfl
  clear d13

  go_wp2_with fail
  refine (same_is ob1 ob1 true ⟨(sameO_iff _ _).2 rfl⟩ A4 none c4 0 _ (by decide) (by decide) (D13.out _ (Ext.refl _)).2.2.2.1 (.inl ⟨rfl, rfl⟩)).mono ?_; rintro e w14 ⟨rfl, hx14⟩
  have HX14 := Hd.mk hx14; clear hx14 q10 q11 q12 q40 q41 q42
  go_wp2_with fail
  refine (equalF_is fs1 fs1 true ⟨by simp⟩ A11 (some ⟨w5.heap.size, 0, none⟩) c11 2 _ (by decide) (by decide) (D13.out _ HX14.out).2.2.2.2.2 (D13.out _ HX14.out).2.2.2.2.1).mono ?_; rintro e w15 ⟨rfl, hx15⟩
  have HX15 := Hd.mk (HX14.out.trans hx15); clear hx15 HX14
  have HS15 := Hd.mk (HS13.out.ext HX15.out)
  have d15 := D13.out _ HX15.out
  have q10 := cell_of d15.1 (j := 0) (v := .int .i64 5) rfl
  have q11 := cell_of d15.1 (j := 1) (v := .slice none 0 0) rfl
  have q12 := cell_of d15.1 (j := 2) (v := .string ⟨#[97, 98]⟩) rfl
  have H15 := Hd.mk d15.1; have HW15 := Hd.mk d15.2.1
  clear d15
  go_wp2_with fail
  refine (put_is sb mb [] [(d1, ob1)] ob1 _ K1 K3 none 0 _ HS15.out (by decide) (by decide) (.inl ⟨rfl, rfl⟩)).mono ?_; rintro e w16 ⟨rfl, hS16, hb16⟩
  have HS16 := Hd.mk hS16; have H16 := Hd.mk (But.other hb16 (by omega) H15.out); have HW16 := Hd.mk (But.ext HW15.out hb16 (by omega))
  clear hS16 hb16 HS15 H15 HW15 HX15 D13 D1 q10 q11 q12
  go_wp2_with fail
  have HX17 := Hd.mk ((Ext.refl w16).alloc (.cells #[.string d1] 9))
  refine (put_is sb mb [(d1, ob1)] [(d1, ob1), (q1, ⟨0, [d1], ⟨#[]⟩⟩)] ⟨0, [d1], ⟨#[]⟩⟩ _ K2 K4 (some ⟨w16.heap.size, 0, none⟩) 1 _ (HS16.out.ext HX17.out) (by simp) (Nat.zero_le _) (one_at (heap_alloc_new w16 _))).mono ?_; rintro e w17 ⟨rfl, hS17, hb17⟩
  have HS17 := Hd.mk hS17; have H17 := Hd.mk (But.other hb17 (by omega) (HX17.out.obj H16.out)); have HW17 := Hd.mk (But.ext (HW16.out.trans HX17.out) hb17 (by omega))
  clear hS17 hb17 HS16 H16 HW16 HX17
  go_wp2_with fail
  refine (get_is sb mb _ d1 _ K5 _ HS17.out (by intro p hp; simp at hp; rcases hp with rfl | rfl <;> simp [ob1])).mono ?_; rintro e w18 ⟨hx18, A18, c18, hA18, _, rfl⟩
  have HX18 := Hd.mk hx18; have HA18 := Hd.mk hA18; clear hx18 hA18
  go_wp2_with (refine boxRow 24 objZ ?_ (objC ob1 A18 c18) (n := 169) (i := 18) (k := 118) ?_ ?_ ?_ ?_ ?_ ?_; exact info_obj; rfl; decide; rfl; rfl; exact objC_one _ _ _; intro w19 h19 hx19 hz19; have H19 := Hd.mk h19; have HX19 := Hd.mk (HX18.out.trans hx19); have HA19 := Hd.mk (HA18.out.ext hx19); clear h19 hx19 hz19)
  have hbs : w18.heap.size ≠ mb := by have h1 := HX18.out.size; have h2 := (HS17.out.2.choose_spec.1).lt; omega
  have HX20 := Hd.mk ((Ext.refl w19).alloc (.cells #[.string q1] 9))
  have HS20 := Hd.mk ((HS17.out.ext HX19.out).ext HX20.out)
  refine (closure_any sb mb _ [q1] (some ⟨w19.heap.size, 0, none⟩) 1 _ HS20.out (by intro p hp; simp at hp; rcases hp with rfl | rfl <;> simp [ob1]) (by simp) (by simp) (one_at (heap_alloc_new w19 _))).mono ?_; rintro e w21 ⟨fi, fo, v1, v2, hclo, rfl, hv1, hv2, hx21, _, _⟩
  obtain ⟨hfi, hfo⟩ := K7.out _ _ hclo
  obtain ⟨A1, c1, rfl, _, _⟩ := hv1
  obtain ⟨A2, c2, rfl, _, _⟩ := hv2
  have hl1 : (sortB fi).length = 2 := by rw [sortB_length, hfi]
  have hl2 : (sortB fo).length = 0 := by rw [sortB_length, hfo]
  rw [hl1, hl2]
  have HX21 := Hd.mk (HX20.out.trans hx21)
  have HS21 := Hd.mk (HS20.out.ext hx21)
  have HW21 := Hd.mk ((HW17.out.trans HX19.out).trans HX21.out)
  have HA21 := Hd.mk (HA19.out.ext HX21.out)
  have h1 := HX21.out.obj (HX19.out.obj H17.out)
  have h18 := HX21.out.obj H19.out
  have q10 := cell_of h1 (j := 0) (v := .int .i64 5) rfl
  have q11 := cell_of h1 (j := 1) (v := .slice none 0 0) rfl
  have q12 := cell_of h1 (j := 2) (v := .string ⟨#[97, 98]⟩) rfl
  have q40 := cell_of h18 (j := 0) (v := .int .i64 5) rfl
  have q41 := cell_of h18 (j := 1) (v := .slice A18 0 c18) rfl
  have q42 := cell_of h18 (j := 2) (v := .string ⟨#[97, 98]⟩) rfl
  clear hclo hfi hfo hl1 hl2 hx21 h1 h18 HS20 HX20 HX18 HX19 HS17 H17 H19 HA18 HA19 HW17
  go_wp2_with fail
  refine (same_is ob1 ob1 true ⟨(sameO_iff _ _).2 rfl⟩ A18 none c18 0 _ (by decide) (by decide) HA21.out (.inl ⟨rfl, rfl⟩)).mono ?_; rintro e w22 ⟨rfl, hx22⟩
  have HS22 := Hd.mk (HS21.out.ext hx22); have HW22 := Hd.mk (HW21.out.trans hx22)
  clear q10 q11 q12 q40 q41 q42 hx22 HS21 HW21
  go_wp2_with fail
  refine (drop_is sb mb _ [(q1, ⟨0, [d1], ⟨#[]⟩⟩)] d1 true ⟨by rw [K5.out]; rfl⟩ K6 _ HS22.out).mono ?_; rintro e w23 ⟨rfl, hS23, hb23⟩
  have HS23 := Hd.mk hS23; have HW23 := Hd.mk (But.ext HW22.out hb23 (by omega)); clear hS23 hb23 HS22 HW22
  go_wp2_with fail
  refine (digests_set sb mb _ _ HS23.out (by intro p hp; simp at hp; subst hp; rw [K8.out]; decide) (by simp)).mono ?_; rintro e w24 ⟨v, rfl, hv, hx24⟩
  rw [show ([(q1, (⟨0, [d1], ⟨#[]⟩⟩ : Obj))] : List (ByteArray × Obj)).map (·.1) = [q1] from rfl, sort1] at hv
  obtain ⟨A3, c3, rfl, _, hA3⟩ := hv
  have HA3 := Hd.mk hA3; have HW24 := Hd.mk (HW23.out.trans hx24); clear hA3 hx24 HS23 HW23
  go_wp2_with fail
  have HX25 := Hd.mk ((Ext.refl w24).alloc (.cells #[.string q1] 9))
  refine (equalS_is [q1] [q1] true ⟨by simp⟩ A3 (some ⟨w24.heap.size, 0, none⟩) c3 1 _ (by simp) (by simp) (HA3.out.ext HX25.out) (one_at (heap_alloc_new w24 _))).mono ?_; rintro e w26 ⟨rfl, hx26⟩
  have HW26 := Hd.mk ((HW24.out.trans HX25.out).trans hx26); clear hx26
  go_wp2
  go_ret
  exact ⟨rfl, HW26.out⟩
end Go.Proofs.YtfofapggmoibkaaGreatDoor
