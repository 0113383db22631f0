/- . -/
import Derived.Test.YtnkpoddbbdmipaaGreatDoorTTyPry
import Derived.Test.YtnkpoddbbdmipaaGreatDoorTTySme
import Derived.Test.YtnkpoddbbdmipaaGreatDoorTTyOwD
namespace Go.Proofs.YtnkpoddbbdmipaaGreatDoor
open Go Go.RowKit
open Go.Lib (hid)
set_option linter.unusedVariables false
set_option linter.unusedSimpArgs false
def inpB (nm : List UInt8) (t : TR) (has : Bool) (v : VT) : List UInt8 := nm ++ [58, 32] ++ ren (typI t) ++ (if has then [32, 61, 32] ++ ren (valI v) else [])
theorem inp_ren (n : List It) (t : TR) (has : Bool) (v : VT) : ren (inpI n t has v) = inpB (ren n) t has v := by
 unfold inpI inpB; rw [ren_app, ren_cons, ren_cons, ren_app]
 cases has
 ·simp [ren, It.src, sgI]
 ·rw [if_pos rfl, ren_cons, ren_cons, ren_cons]; simp [It.src, sgI]
set_option maxRecDepth 100000 in
set_option maxHeartbeats 8000000 in
theorem prI_any (nm : List UInt8) (t : TR) (has : Bool) (v : VT) (hw : has = true → WellV v) (G : Nat → Prop) (w : World) (cs ds : List Value) (h : CellsAt w G (trC t) cs) (h' : CellsAt w G (valC v) ds) (hl : (inpB nm t has v).length ≤ 1000000000000) :
  Calls Tryz.prog 49 #[.string ⟨nm.toArray⟩, .agg cs.toArray, .bool has, .agg ds.toArray] w (fun e w' => e = .returned (.string ⟨(inpB nm t has v).toArray⟩) ∧ Only (fun _ => False) w w') := by
 have hl0 := hl; unfold inpB at hl0; simp only [List.length_append] at hl0; have hlt : (ren (typI t)).length ≤ 1000000000000 := by omega
 have hln : nm.length ≤ 1000000000000 := by omega
 have hta := fun (wx : World) (ox : Only (fun _ => False) w wx) => prT_any t G wx cs (CellsAt.only ox (fun _ _ h => h) _ _ h) hlt
 have hva := fun (wx : World) (ox : Only (fun _ => False) w wx) (hh : has = true) => prV_any v (hw hh) G wx ds (CellsAt.only ox (fun _ _ h => h) _ _ h') (by rw [if_pos hh, List.length_append] at hl0; omega)
 have hvl : has = true → (ren (valI v)).length ≤ 1000000000000 := fun hh => by rw [if_pos hh, List.length_append] at hl0; omega
 obtain ⟨s1, a1, l1, c1, b1, rfl⟩ := trC_form2 h; obtain ⟨k, n, s2, a2, l2, e2, a3, l3, e3, rfl⟩ := valC_form2 h'; obtain ⟨R, hR⟩ := eX (inpB nm t has v); rw [hR]; obtain ⟨wb, hwb⟩ := eX ((w.alloc (.cells #[.string ⟨s1.toArray⟩, .slice a1 l1 c1, .bool b1] 41)).alloc (.cells #[.int .u8 (k : Int), .int .i64 n, .string ⟨s2.toArray⟩, .slice a2 l2 e2, .slice a3 l3 e3] 35)); have ob : Only (fun _ => False) w wb := by rw [← hwb]; exact ((Only.refl _ w).alloc _).alloc _
 obtain ⟨bA, hbA⟩ := eX (w.heap.size); obtain ⟨bB, hbB⟩ := eX (bA + 1); have hx1 : wb.heap[bA]? = some (.cells #[.string ⟨s1.toArray⟩, .slice a1 l1 c1, .bool b1] 41 (0, 0)) := by rw [← hwb, ← hbA]; exact heap_old (heap_new w _) _
 have hx2 : wb.heap[bB]? = some (.cells #[.int .u8 (k : Int), .int .i64 n, .string ⟨s2.toArray⟩, .slice a2 l2 e2, .slice a3 l3 e3] 35 (0, 0)) := by
  rw [← hwb, ← hbB, ← hbA]; have := heap_new (w.alloc (.cells #[.string ⟨s1.toArray⟩, .slice a1 l1 c1, .bool b1] 41)) (.cells #[.int .u8 (k : Int), .int .i64 n, .string ⟨s2.toArray⟩, .slice a2 l2 e2, .slice a3 l3 e3] 35); rw [World.size_alloc] at this; exact this
 obtain ⟨c0, c1', c2, -⟩ := boxN3 hx1; obtain ⟨d0, d1, d2, d3, d4, -⟩ := boxN5 hx2; have HD := hid (And.intro d0 (And.intro d1 (And.intro d2 (And.intro d3 d4)))); have HOB := hid ob; have HWB := hid hwb; have HBA := hid hbA; have HBB := hid hbB; have HT := hid (hta wb ob); have HV := hid (fun (wx : World) (ox : Only (fun _ => False) wb wx) => hva wx (HOB.out.trans ox)); clear hx1 hx2 ob hwb hbA hbB h h' hta hva hw hl hl0; unfold inpB at hR
 generalize ren (typI t) = rt at *
 cases has with
 | false =>
  rw [if_neg (by decide), List.append_nil] at hR; have HR := hid hR; clear hR
  go_enter Tryz.func49, Tryz.ntmps49
  go_upto_region 1 with (fail)
  rw [HWB.out, HBA.out, HBB.out]
  go_wp2_with fail
  refine HT.out.mono ?_
  rintro e w6 ⟨rfl, o6⟩; have HO6 := hid (HOB.out.trans o6); clear c0 c1' c2 d0 d1 d2 d3 d4 o6
  go_wp2_with fail
  go_ret
  rw [← HR.out]; simp only [← cat_list]; exact ⟨rfl, HO6.out⟩
 | true =>
  rw [if_pos rfl] at hR; have hl2 := hvl rfl; clear hvl; have HV' := hid (fun wx ox => HV.out wx ox rfl); have hR2 := hR
  generalize ren (valI v) = rv at *
  have HR := hid hR; clear hR hR2 HV
  go_enter Tryz.func49, Tryz.ntmps49
  go_upto_region 1 with (fail)
  rw [HWB.out, HBA.out, HBB.out]
  go_wp2_with fail
  refine HT.out.mono ?_
  rintro e w6 ⟨rfl, o6⟩; have HV6 := hid (HV'.out w6 o6); obtain ⟨z0, z1, z2, z3, z4⟩ := HD.out; have z0 := keepc o6 z0; have z1 := keepc o6 z1; have z2 := keepc o6 z2; have z3 := keepc o6 z3; have z4 := keepc o6 z4; have HO6 := hid (HOB.out.trans o6); clear c0 c1' c2 d0 d1 d2 d3 d4 o6 HV'
  go_wp2_with fail
  refine HV6.out.mono ?_
  rintro e w7 ⟨rfl, o7⟩; have HO7 := hid (HO6.out.trans o7); clear z0 z1 z2 z3 z4 o7
  go_wp2_with fail
  go_ret
  rw [← HR.out]; simp only [← cat_list]; exact ⟨rfl, HO7.out⟩
def parB (name : List UInt8) (l : List (List It)) (i : Nat) : List UInt8 := name ++ (if i = 0 then [] else [40] ++ ren (sepI gapI (l.take i)))
theorem parB_next (name : List UInt8) (l : List (List It)) (i : Nat) (h : i < l.length) : parB name l (i + 1) = parB name l i ++ (if i = 0 then [40] else [44, 32]) ++ ren l[i] := by
 unfold parB; rw [if_neg (by omega), sep_next gapI l i h]
 by_cases h0 : i = 0
 ·subst h0; rw [sep_zero]; simp
 ·rw [if_pos (by omega), if_neg h0, if_neg h0, gap_ren]; simp
theorem parB_end (name : List UInt8) (l : List (List It)) : name ++ ren (parI l) = parB name l l.length ++ (if 0 < l.length then [41] else []) := by
 unfold parB parI
 cases l with
 | nil => simp [ren]
 | cons a l =>
  rw [if_neg (by simp), if_neg (by simp), if_pos (by simp), List.take_length, ren_cons, ren_app]; simp [ren, It.src, sgI]
theorem parB_le (name : List UInt8) (l : List (List It)) (i : Nat) (hi : i ≤ l.length) : (parB name l i).length ≤ (name ++ ren (parI l)).length := by
 rw [parB_end]; unfold parB
 by_cases h0 : i = 0
 ·rw [if_pos h0]; simp only [List.length_append, List.length_nil]; omega
 ·rw [if_neg h0]
  cases l with
  | nil => simp at hi; omega
  | cons a l =>
   have := sep_le gapI (a :: l) i; rw [if_neg (by simp), List.take_length]; simp only [List.length_append, List.length_cons, List.length_nil] at this ⊢; omega
def PrF (f : FD) : Prop := ∀ (G : Nat → Prop) (w : World) (cs : List Value), CellsAt w G (fdC f) cs → (ren (fdI f)).length ≤ 1000000000000 →
  Calls Tryz.prog 67 #[.agg cs.toArray] w (fun e w' => e = .returned (.string ⟨(ren (fdI f)).toArray⟩) ∧ Only (fun _ => False) w w')
theorem of_ren (i : IN) : ren (fdI (FD.of i)) = ren (inI i) := by simp [fdI, FD.of, parI, inI]
set_option maxRecDepth 100000 in
set_option maxHeartbeats 16000000 in
theorem prF_of (f : FD) (hw : f.has = true → WellV f.v) (ih : ∀ i ∈ f.args, PrF (FD.of i)) : PrF f := by
 intro G w cs h hl; obtain ⟨gv, ts, us, rfl, hg, ht, hu⟩ := fd_cells h; obtain ⟨ag, cg, rfl, k1, k2, k3⟩ := rows_at hg; obtain ⟨L, hL⟩ := eX (f.args.length); obtain ⟨its, hits⟩ := eX (f.args.map inI); have hil : its.length = L := by rw [← hits, List.length_map, hL]
 have hig : ∀ i (h : i < f.args.length) (h' : i < its.length), ren its[i] = ren (fdI (FD.of f.args[i])) := fun i h h' => by subst hits; rw [of_ren, List.getElem_map]
 have hfr : ren (fdI f) = inpB (f.name ++ ren (parI its)) f.t f.has f.v := by
  unfold fdI; rw [inp_ren, ren_cons, hits]; rfl
 obtain ⟨R, hR⟩ := eX (ren (fdI f)); rw [hR] at hl hfr ⊢; have hpl : (f.name ++ ren (parI its)).length ≤ 1000000000000 := by
  rw [hfr] at hl; unfold inpB at hl; simp only [List.length_append] at hl ⊢; omega
 have hin := fun (wx : World) (ox : Only (fun _ => False) w wx) => prI_any (f.name ++ ren (parI its)) f.t f.has f.v hw G wx ts us (CellsAt.only ox (fun _ _ h => h) _ _ ht) (CellsAt.only ox (fun _ _ h => h) _ _ hu) (by rw [← hfr]; exact hl)
 obtain ⟨s1, a1, l1, e1, b1, rfl⟩ := trC_form2 ht; obtain ⟨k, n, s2, a2, l2, e2, a3, l3, e3, rfl⟩ := valC_form2 hu; rw [← hfr] at hin; rw [hL] at k1 ⊢; have HL := hid hL; have HK := hid k3; have HIG := hid hig; have HIL := hid hil; have IH := hid ih; have HPL := hid hpl
 generalize f.name = nm at *
 generalize f.has = has at *
 simp only [List.cons_append, List.nil_append] at hin ⊢; obtain ⟨wb, hwb⟩ := eX (w.alloc (.cells #[.string ⟨nm.toArray⟩, .slice ag L cg, .string ⟨s1.toArray⟩, .slice a1 l1 e1, .bool b1, .bool has, .int .u8 (k : Int), .int .i64 n, .string ⟨s2.toArray⟩, .slice a2 l2 e2, .slice a3 l3 e3] 104)); have ob : Only (fun _ => False) w wb := by rw [← hwb]; exact (Only.refl _ w).alloc _
 obtain ⟨bA, hbA⟩ := eX (w.heap.size); have hx1 : wb.heap[bA]? = some (.cells #[.string ⟨nm.toArray⟩, .slice ag L cg, .string ⟨s1.toArray⟩, .slice a1 l1 e1, .bool b1, .bool has, .int .u8 (k : Int), .int .i64 n, .string ⟨s2.toArray⟩, .slice a2 l2 e2, .slice a3 l3 e3] 104 (0, 0)) := by rw [← hwb, ← hbA]; exact heap_new w _
 obtain ⟨c0, c1, c2, c3, c4, c5, c6, c7, c8, c9, c10, -⟩ := boxN11 hx1; have HC := hid (And.intro (c0) (And.intro (c1) (And.intro (c2) (And.intro (c3) (And.intro (c4) (And.intro (c5) (And.intro (c6) (And.intro (c7) (And.intro (c8) (And.intro (c9) (c10))))))))))); have HOB := hid ob; have HWB := hid hwb; have HBA := hid hbA; have HIN := hid hin; have HFR := hid hfr; have HEND := hid (parB_end nm its); clear hx1 ob hwb hbA h hg ht hu hin hL k3 hig hil ih hits hw hl hR hfr hpl
 go_enter Tryz.func67, Tryz.ntmps67
 go_upto_region 1 with (fail)
 rw [HWB.out, HBA.out]
 go_wp2_with fail
 clear c0 c1 c2 c3 c4 c5 c6 c7 c8 c9 c10
 go_loopw [3, 4] (fun x y wr => ∃ i : Nat, y = .int .i64 (i : Int) ∧ i ≤ L ∧ x = .string ⟨(parB nm its i).toArray⟩ ∧ Hid (Only (fun _ => False) wb wr)) (fun _ y _ => L - (intOf y).toNat)
 case atStart => exact ⟨0, rfl, by omega, by unfold parB; rw [if_pos rfl, List.append_nil], hid oR⟩
 case round =>
  obtain ⟨i, rfl, hi, rfl, HO⟩ := hrel; obtain ⟨c0, c1, c2, c3, c4, c5, c6, c7, c8, c9, c10⟩ := HC.out; have c0 := keepc HO.out c0; have c1 := keepc HO.out c1; have c2 := keepc HO.out c2; have c3 := keepc HO.out c3; have c4 := keepc HO.out c4; have c5 := keepc HO.out c5; have c6 := keepc HO.out c6; have c7 := keepc HO.out c7; have c8 := keepc HO.out c8; have c9 := keepc HO.out c9; have c10 := keepc HO.out c10; have hal := Nat.le_trans (parB_le nm its i (by rw [HIL.out]; omega)) HPL.out
  by_cases hlt : i < L
  ·have t1 : decide ((i : Int) < (L : Int)) = true := decide_eq_true (by omega); have hi0 : (0 : Int) ≤ (i : Int) := by omega
   have hi1 : (i : Int) < (L : Int) := by omega
   have hvi : i < f.args.length := by rw [HL.out]; exact hlt
   have hii : i < its.length := by rw [HIL.out]; exact hlt
   have hnx := parB_next nm its i hii; have hnl := Nat.le_trans (parB_le nm its (i + 1) (by rw [HIL.out]; omega)) HPL.out; rw [HIG.out i hvi hii] at hnx; rw [hnx] at hnl; simp only [List.length_append] at hnl; obtain ⟨gv, ov, xs, rfl, -, hr, hc⟩ := HK.out i hvi; have hc : CellsAt w G (fdC (FD.of f.args[i])) xs := hc; have hrl : (ren (fdI (FD.of f.args[i]))).length ≤ 1000000000000 := by omega
   have hrec := IH.out f.args[i] (List.getElem_mem hvi) G wr xs (CellsAt.only (HOB.out.trans HO.out) (fun _ _ h => h) _ _ hc) hrl; obtain ⟨m0', g', lg', eg', s1', a1', l1', e1', b1', h1', k', n', s2', a2', l2', e2', a3', l3', e3', he⟩ := fdC_form hc; rw [he] at hrec; have hxs : xs = (#[.string ⟨m0'.toArray⟩, .slice g' lg' eg', .string ⟨s1'.toArray⟩, .slice a1' l1' e1', .bool b1', .bool h1', .int .u8 (k' : Int), .int .i64 n', .string ⟨s2'.toArray⟩, .slice a2' l2' e2', .slice a3' l3' e3'] : Array Value).toList := by rw [← he]
   rw [hxs] at hr; obtain ⟨y0, y1, y2, y3, y4, y5, y6, y7, y8, y9, y10⟩ := cells11_of hr; have y0 := keepc (HOB.out.trans HO.out) y0; have y1 := keepc (HOB.out.trans HO.out) y1; have y2 := keepc (HOB.out.trans HO.out) y2; have y3 := keepc (HOB.out.trans HO.out) y3; have y4 := keepc (HOB.out.trans HO.out) y4; have y5 := keepc (HOB.out.trans HO.out) y5; have y6 := keepc (HOB.out.trans HO.out) y6; have y7 := keepc (HOB.out.trans HO.out) y7; have y8 := keepc (HOB.out.trans HO.out) y8; have y9 := keepc (HOB.out.trans HO.out) y9; have y10 := keepc (HOB.out.trans HO.out) y10; have HREC := hid hrec; obtain ⟨acc, hacc⟩ := eX (parB nm its i); obtain ⟨acc', hacc'⟩ : ∃ a, parB nm its (i + 1) = a := ⟨_, rfl⟩; have HA' := hid hacc'; rw [hacc] at hal hnx hnl ⊢; rw [hacc'] at hnx; obtain ⟨rv, hrv⟩ := eX (ren (fdI (FD.of f.args[i]))); rw [hrv] at hnx hrl HREC; have HNX := hid hnx; clear hacc hacc' hrv hnx hnl hrec he hxs hr hc
   by_cases hz : i = 0
   ·have t2 : ((i : Int) == 0) = true := by simp; omega
    rw [if_pos hz] at HNX; have HZ := hid hz; clear hz c0 c2 c3 c4 c5 c6 c7 c8 c9 c10
    go_wp2_with fail
    refine HREC.out.mono ?_
    rintro e w6 ⟨rfl, o6⟩; have HO6 := hid (HO.out.trans o6); clear o6 c1 y0 y1 y2 y3 y4 y5 y6 y7 y8 y9 y10
    go_wp2_with fail
    go_roundw
    case rel => exact ⟨i + 1, by simp, by omega, by rw [HA'.out, HNX.out]; simp only [← cat_list], HO6⟩
    case measure => simp [intOf]; omega
   ·have t2 : ((i : Int) == 0) = false := by simp; omega
    rw [if_neg hz] at HNX; clear hz c0 c2 c3 c4 c5 c6 c7 c8 c9 c10
    go_wp2_with fail
    refine HREC.out.mono ?_
    rintro e w6 ⟨rfl, o6⟩; have HO6 := hid (HO.out.trans o6); clear o6 c1 y0 y1 y2 y3 y4 y5 y6 y7 y8 y9 y10
    go_wp2_with fail
    go_roundw
    case rel => exact ⟨i + 1, by simp, by omega, by rw [HA'.out, HNX.out]; simp only [← cat_list], HO6⟩
    case measure => simp [intOf]; omega
  ·have t1 : decide ((i : Int) < (L : Int)) = false := decide_eq_false (by omega); have hke : i = L := by omega
   subst hke; have hend := HEND.out; rw [HIL.out] at hend; have HI := hid (HIN.out wr (HOB.out.trans HO.out)); have HBX := hid (HOB.out.trans HO.out)
   generalize parB nm its i = acc at *
   by_cases hz : 0 < i
   ·have t2 : decide ((i : Int) > 0) = true := decide_eq_true (by omega); rw [if_pos hz] at hend; have hs : (⟨acc.toArray⟩ : ByteArray) ++ ⟨#[41]⟩ = ⟨(nm ++ ren (parI its)).toArray⟩ := by rw [hend, ← cat_list]
    rw [← hs] at HI; clear hend hs
    go_wp2_with fail
    refine HI.out.mono ?_
    rintro e w7 ⟨rfl, o7⟩; have HO7 := hid (HBX.out.trans o7); clear o7 c0 c1 c2 c3 c4 c5 c6 c7 c8 c9 c10
    go_wp2_with fail
    go_ret
    exact ⟨rfl, HO7.out⟩
   ·have t2 : decide ((i : Int) > 0) = false := decide_eq_false (by omega); rw [if_neg hz, List.append_nil] at hend; rw [hend] at HI; clear hend
    go_wp2_with fail
    refine HI.out.mono ?_
    rintro e w7 ⟨rfl, o7⟩; have HO7 := hid (HBX.out.trans o7); clear o7 c0 c1 c2 c3 c4 c5 c6 c7 c8 c9 c10
    go_wp2_with fail
    go_ret
    exact ⟨rfl, HO7.out⟩
def WellF (f : FD) : Prop := (f.has = true → WellV f.v) ∧ ∀ i ∈ f.args, i.has = true → WellV i.v
theorem prF_any (f : FD) (h : WellF f) : PrF f := prF_of f h.1 fun i hi => prF_of (FD.of i) (h.2 i hi) fun j hj => by cases hj
def flB {α : Type} (f : α → List UInt8) (l : List α) (i : Nat) : List UInt8 := (l.take i).flatMap f
theorem flB_next {α : Type} (f : α → List UInt8) (l : List α) (j : Nat) (h : j < l.length) : flB f l (j + 1) = flB f l j ++ f l[j] := by
 unfold flB; rw [List.take_succ_eq_append_getElem h, List.flatMap_append]; simp
theorem flB_le {α : Type} (f : α → List UInt8) (l : List α) (j : Nat) : (flB f l j).length ≤ (flB f l l.length).length := by
 unfold flB
 conv => rhs; rw [List.take_length, ← List.take_append_drop j l, List.flatMap_append, List.length_append]
 omega
theorem flB_ren {α : Type} (g : α → List It) (f : α → List UInt8) (h : ∀ x, ren (g x) = f x) : ∀ l : List α, ren (l.flatMap g) = flB f l l.length
 | [] => rfl
 | x :: l => by
  have := flB_ren g f h l; unfold flB at this ⊢; rw [List.take_length] at this ⊢; rw [List.flatMap_cons, List.flatMap_cons, ren_app, h, this]
def selB (x : SL) : List UInt8 := [32] ++ ren (selI x)
def dirB (d : DR) : List UInt8 := [32, 64] ++ d.name ++ ren (argsI d.args)
theorem set_ren (l : List SL) : ren (setI l) = [32, 123] ++ flB selB l l.length ++ [32, 125] := by
 unfold setI brI; rw [selsI_map, ren_cons, ren_cons, ren_app, flB_ren _ selB (fun x => by rw [ren_cons]; rfl)]; simp [ren, It.src, sgI]
theorem dirs_ren (l : List DR) : ren (l.flatMap dirI) = flB dirB l l.length := flB_ren _ dirB (fun d => by
 unfold dirI dirB; rw [ren_cons, ren_cons, ren_cons]
 simp [It.src, sgI, nmI]) l
theorem goodV_wellP (fx : Bool) : ∀ (d : Nat) (v : VT), GoodV fx d v → WellV v
 | 0, _, h => h.elim
 | d + 1, .mk k n s ks vs, h => by
  rcases h with ⟨rfl, hn, rfl, rfl, rfl⟩ | ⟨rfl, rfl, _, rfl, rfl⟩ | ⟨rfl, hn, rfl, rfl, rfl⟩ | ⟨rfl, rfl, rfl, rfl, rfl⟩ | ⟨rfl, rfl, _, _, _, _, rfl, rfl⟩ | ⟨rfl, _, rfl, _, rfl, rfl⟩ | ⟨rfl, rfl, rfl, rfl, hv⟩ | ⟨rfl, rfl, rfl, ps, rfl, rfl, hp⟩
  ·exact .mk _ _ _ _ _ (by unfold NumOk at hn; omega) (.inl rfl) (by simp)
  ·exact .mk _ _ _ _ _ (by omega) (.inl rfl) (by simp)
  ·exact .mk _ _ _ _ _ (by omega) (.inl rfl) (by simp)
  ·exact .mk _ _ _ _ _ (by omega) (.inl rfl) (by simp)
  ·exact .mk _ _ _ _ _ (by omega) (.inl rfl) (by simp)
  ·exact .mk _ _ _ _ _ (by omega) (.inl rfl) (by simp)
  ·exact .mk _ _ _ _ _ (by omega) (.inr (.inl rfl)) (fun v hvv => goodV_wellP fx d v (hv v hvv))
  ·exact .mk _ _ _ _ _ (by omega) (.inr (.inr ⟨rfl, by simp⟩)) (fun v hvv => by
    obtain ⟨p, hpp, rfl⟩ := List.mem_map.1 hvv
    exact goodV_wellP fx d p.2 (hp p hpp).2)
end Go.Proofs.YtnkpoddbbdmipaaGreatDoor
