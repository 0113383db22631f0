/- . -/
import Derived.Test.YtnkpoddbbdmipaaGreatDoorTApKiB
import Derived.Test.YtnkpoddbbdmipaaGreatDoorTApPry
import Derived.Test.YtnkpoddbbdmipaaGreatDoorTApEnD
import Derived.Test.YtnkpoddbbdmipaaGreatDoorTApPnt
namespace Go.Proofs.YtnkpoddbbdmipaaGreatDoor
open Go Go.RowKit
open Go.Lib (hid)
set_option linter.unusedVariables false
set_option linter.unusedSimpArgs false
theorem cells3_of {w : World} {g p : Nat} {x y z : Value} (h : ∀ j q, ([x, y, z] : List Value)[j]? = some q → w.cell? ⟨g, p + j, none⟩ = some q) : w.cell? ⟨g, p, none⟩ = some x ∧ w.cell? ⟨g, p + 1, none⟩ = some y ∧ w.cell? ⟨g, p + 2, none⟩ = some z := ⟨h 0 x rfl, h 1 y rfl, h 2 z rfl⟩
theorem cells6_of {w : World} {g p : Nat} {x0 x1 x2 x3 x4 x5 : Value} (h : ∀ j q, ([x0, x1, x2, x3, x4, x5] : List Value)[j]? = some q → w.cell? ⟨g, p + j, none⟩ = some q) : w.cell? ⟨g, p, none⟩ = some x0 ∧ w.cell? ⟨g, p + 1, none⟩ = some x1 ∧ w.cell? ⟨g, p + 2, none⟩ = some x2 ∧ w.cell? ⟨g, p + 3, none⟩ = some x3 ∧ w.cell? ⟨g, p + 4, none⟩ = some x4 ∧ w.cell? ⟨g, p + 5, none⟩ = some x5 :=
 ⟨h 0 _ rfl, h 1 _ rfl, h 2 _ rfl, h 3 _ rfl, h 4 _ rfl, h 5 _ rfl⟩
def inpB (nm : List UInt8) (t : TR) (has : Bool) (v : VT) : List UInt8 := nm ++ [58, 32] ++ ren (typI t) ++ (if has then [32, 61, 32] ++ ren (valI v) else [])
theorem inp_ren (n : List It) (t : TR) (has : Bool) (v : VT) : ren (inpI n t has v) = inpB (ren n) t has v := by
 unfold inpI inpB; rw [ren_app, ren_cons, ren_cons, ren_app]
 cases has
 ·simp [ren, It.src, sgI]
 ·rw [if_pos rfl, ren_cons, ren_cons, ren_cons]; simp [It.src, sgI]
def parB (name : List UInt8) (l : List (List It)) (i : Nat) : List UInt8 := name ++ (if i = 0 then [] else [40] ++ ren (sepI gapI (l.take i)))
theorem parB_next (name : List UInt8) (l : List (List It)) (i : Nat) (h : i < l.length) : parB name l (i + 1) = parB name l i ++ (if i = 0 then [40] else [44, 32]) ++ ren l[i] := by
 unfold parB; rw [if_neg (by omega), sep_next gapI l i h]
 by_cases h0 : i = 0
 ·subst h0; rw [sep_zero]; simp
 ·rw [if_pos (by omega), if_neg h0, if_neg h0, gap_ren]; simp
theorem parB_end (name : List UInt8) (l : List (List It)) : name ++ ren (parI l) = parB name l l.length ++ (if 0 < l.length then [41] else []) := by
 unfold parB parI
 cases l with
 | nil => simp [ren]
 | cons a l =>
  rw [if_neg (by simp), if_neg (by simp), if_pos (by simp), List.take_length, ren_cons, ren_app]; simp [ren, It.src, sgI]
theorem parB_le (name : List UInt8) (l : List (List It)) (i : Nat) (hi : i ≤ l.length) : (parB name l i).length ≤ (name ++ ren (parI l)).length := by
 rw [parB_end]; unfold parB
 by_cases h0 : i = 0
 ·rw [if_pos h0]; simp only [List.length_append, List.length_nil]; omega
 ·rw [if_neg h0]
  cases l with
  | nil => simp at hi; omega
  | cons a l =>
   have := sep_le gapI (a :: l) i; rw [if_neg (by simp), List.take_length]; simp only [List.length_append, List.length_cons, List.length_nil] at this ⊢; omega
theorem arg_ren (a : AR) : ren (argI a) = a.name ++ [58, 32] ++ ren (valI a.v) := by
 unfold argI pairI; rw [ren_cons, ren_cons, ren_cons]; simp [It.src, nmI, sgI]
set_option maxRecDepth 100000 in
set_option maxHeartbeats 16000000 in
theorem prA_any (gs : List AR) (hw : ∀ a ∈ gs, WellV a.v) (G : Nat → Prop) (w : World) (v : Value) (h : CellAt w G (.row 6 (gs.map argC)) v) (hl : (ren (argsI gs)).length ≤ 1000000000000) :
  Calls Tryz.prog 61 #[v] w (fun e w' => e = .returned (.string ⟨(ren (argsI gs)).toArray⟩) ∧ Only (fun _ => False) w w') := by
 obtain ⟨a, c, rfl, k1, k2, k3⟩ := rows_at h; obtain ⟨L, hL⟩ := eX (gs.length); obtain ⟨its, hits⟩ := eX (gs.map argI); have hil : its.length = L := by rw [← hits, List.length_map, hL]
 have hig : ∀ i (h : i < gs.length) (h' : i < its.length), ren its[i] = gs[i].name ++ [58, 32] ++ ren (valI gs[i].v) := fun i h h' => by subst hits; rw [List.getElem_map, arg_ren]
 have hend := parB_end [] its; have he : ren (argsI gs) = [] ++ ren (parI its) := by unfold argsI; rw [hits]; rfl
 obtain ⟨R, hR⟩ := eX (ren (argsI gs)); rw [hR] at hl he ⊢; rw [hL] at k1 ⊢; have hpl : ([] ++ ren (parI its)).length ≤ 1000000000000 := by rw [← he]; exact hl
 rw [← he] at hend; have HL := hid hL; have HK := hid k3; have HIG := hid hig; have HIL := hid hil; have HPL := hid hpl; have HEND := hid hend; have HW := hid hw; clear h hw hL hits hil hig hend he hR hpl k3
 go_enter Tryz.func61, Tryz.ntmps61
 go_wp2_with fail
 go_loopw [3, 4] (fun x y wr => ∃ i : Nat, y = .int .i64 (i : Int) ∧ i ≤ L ∧ x = .string ⟨(parB [] its i).toArray⟩ ∧ Hid (Only (fun _ => False) w wr)) (fun _ y _ => L - (intOf y).toNat)
 case atStart => exact ⟨0, rfl, by omega, by unfold parB; rw [if_pos rfl]; rfl, hid oR⟩
 case round =>
  obtain ⟨i, rfl, hi, rfl, HO⟩ := hrel; have hal := Nat.le_trans (parB_le [] its i (by rw [HIL.out]; omega)) HPL.out
  by_cases hlt : i < L
  ·have t1 : decide ((i : Int) < (L : Int)) = true := decide_eq_true (by omega); have hi0 : (0 : Int) ≤ (i : Int) := by omega
   have hi1 : (i : Int) < (L : Int) := by omega
   have hvi : i < gs.length := by rw [HL.out]; exact hlt
   have hii : i < its.length := by rw [HIL.out]; exact hlt
   have hnx := parB_next [] its i hii; have hnl := Nat.le_trans (parB_le [] its (i + 1) (by rw [HIL.out]; omega)) HPL.out; rw [HIG.out i hvi hii] at hnx; rw [hnx] at hnl; simp only [List.length_append] at hnl; have hwv := HW.out gs[i] (List.getElem_mem hvi); obtain ⟨g, o, xs, rfl, -, q1, q2⟩ := HK.out i hvi; obtain ⟨us, rfl, hu⟩ := arg_cells q2; have hrl : (ren (valI gs[i].v)).length ≤ 1000000000000 := by omega
   have hnml : gs[i].name.length ≤ 1000000000000 := by omega
   have hrec := fun (wx : World) (ox : Only (fun _ => False) w wx) => prV_any _ hwv G wx us (CellsAt.only ox (fun _ _ h => h) _ _ hu) hrl
   obtain ⟨vk, vn, vs, va, vl, vc, va2, vl2, vc2, rfl⟩ := valC_form2 hu; obtain ⟨e0, e1, e2, e3, e4, e5⟩ := cells6_of q1; obtain ⟨acc, hacc⟩ := eX (parB [] its i); obtain ⟨acc', hacc'⟩ : ∃ a, parB [] its (i + 1) = a := ⟨_, rfl⟩; have HA' := hid hacc'; rw [hacc] at hal hnx hnl ⊢; rw [hacc'] at hnx
   generalize gs[i].name = nm at *
   generalize ren (valI gs[i].v) = rv at *
   have HNX := hid hnx; have HX := hid (fun (wx : World) (ox : Only (fun _ => False) wr.drew wx) => have ow := HO.out.trans ((Only.refl _ wr).drew.trans ox); And.intro (keepc ow e0) (And.intro (keepc ow e1) (And.intro (keepc ow e2) (And.intro (keepc ow e3) (And.intro (keepc ow e4) (keepc ow e5)))))); have HREC := hid (fun (wx : World) (ox : Only (fun _ => False) wr.drew wx) => hrec wx (HO.out.trans ((Only.refl _ wr).drew.trans ox))); clear hacc hacc' hnx hnl hrec q1 q2 hu e0 e1 e2 e3 e4 e5 hwv
   by_cases hz : i = 0
   ·have t2 : ((i : Int) == 0) = true := by simp; omega
    rw [if_pos hz] at HNX; clear hz
    go_upto_region 8 with (fail)
    refine wp_region_steps 15 (by kernel_rfl) rfl (by kernel_rfl) [some 17, some 18, some 19, some 20, some 21, some 22, some 23, some 24, some 25, some 26, some 27, some 28, some 29, some 30, some 31] rfl rfl (fun _ => False) [(fun v _ => v = (.string (⟨acc.toArray⟩ ++ ⟨#[40]⟩))), (fun v _ => v = (.slice (some ⟨g, o, none⟩) L c)), (fun v _ => v = (.int .i64 (i : Int))), (fun v _ => v = (.pointer (some ⟨g, o + i * 6, none⟩))), (fun v _ => v = (.pointer (some ⟨g, o + i * 6, none⟩))), (fun v _ => v = (.string ⟨nm.toArray⟩)), (fun v _ => v = (.string (⟨nm.toArray⟩ ++ ⟨#[58, 32]⟩))), (fun v _ => v = (.slice (some ⟨g, o, none⟩) L c)), (fun v _ => v = (.int .i64 (i : Int))), (fun v _ => v = (.pointer (some ⟨g, o + i * 6, none⟩))), (fun v _ => v = (.pointer (some ⟨g, o + i * 6 + 1, none⟩))), (fun v _ => v = (.agg #[.int .u8 (vk : Int), .int .i64 vn, .string ⟨vs.toArray⟩, .slice va vl vc, .slice va2 vl2 vc2])), (fun v _ => v = (.string ⟨rv.toArray⟩)), (fun v _ => v = (.string (⟨nm.toArray⟩ ++ ⟨#[58, 32]⟩ ++ ⟨rv.toArray⟩))), (fun v _ => v = (.string (⟨acc.toArray⟩ ++ ⟨#[40]⟩ ++ (⟨nm.toArray⟩ ++ ⟨#[58, 32]⟩ ++ ⟨rv.toArray⟩))))] rfl ⟨?_, ?_, ?_, ?_, ?_, ?_, ?_, ?_, ?_, ?_, ?_, ?_, ?_, ?_, ?_, trivial⟩ _ rfl ⟨?_, ?_, ?_, ?_, ?_, ?_, ?_, ?_, ?_, ?_, ?_, ?_, ?_, ?_, ?_, trivial⟩ ?_
    iterate 15 exact Stable.is _ _
    ·intro x wx ox hN TT HTT; unfold StepTo; simp only [putAll, Act.put, zA, zB, zC]; clear hN
     go_wp2_with fail
     exact ⟨rfl, _, rfl, HTT.out _ _ rfl oR⟩
    ·intro x wx ox hN TT HTT; unfold StepTo; simp only [putAll, Act.put, zA, zB, zC]; clear hN
     go_wp2_with fail
     exact ⟨rfl, _, rfl, HTT.out _ _ rfl oR⟩
    ·intro x wx ox hN TT HTT; unfold StepTo; simp only [putAll, Act.put, zA, zB, zC]; clear hN
     go_wp2_with fail
     exact ⟨rfl, _, rfl, HTT.out _ _ rfl oR⟩
    ·intro x wx ox hN TT HTT; unfold StepTo; simp only [putAll, Act.put, zA, zB, zC, eI (hN.1 rfl), eI (hN.2.1 rfl)]; clear hN
     go_wp2_with fail
     exact ⟨rfl, _, rfl, HTT.out _ _ rfl oR⟩
    ·intro x wx ox hN TT HTT; unfold StepTo; simp only [putAll, Act.put, zA, zB, zC, eI (hN.1 rfl)]; clear hN
     go_wp2_with fail
     exact ⟨rfl, _, rfl, HTT.out _ _ rfl oR⟩
    ·intro x wx ox hN TT HTT; unfold StepTo; simp only [putAll, Act.put, zA, zB, zC, eI (hN.1 rfl)]; clear hN; obtain ⟨m1, m2, m3, m4, m5, m6⟩ := HX.out wx ox
     go_wp2_with fail
     exact ⟨rfl, _, rfl, HTT.out _ _ rfl oR⟩
    ·intro x wx ox hN TT HTT; unfold StepTo; simp only [putAll, Act.put, zA, zB, zC, eI (hN.1 rfl)]; clear hN
     go_wp2_with fail
     exact ⟨rfl, _, rfl, HTT.out _ _ rfl oR⟩
    ·intro x wx ox hN TT HTT; unfold StepTo; simp only [putAll, Act.put, zA, zB, zC]; clear hN
     go_wp2_with fail
     exact ⟨rfl, _, rfl, HTT.out _ _ rfl oR⟩
    ·intro x wx ox hN TT HTT; unfold StepTo; simp only [putAll, Act.put, zA, zB, zC]; clear hN
     go_wp2_with fail
     exact ⟨rfl, _, rfl, HTT.out _ _ rfl oR⟩
    ·intro x wx ox hN TT HTT; unfold StepTo; simp only [putAll, Act.put, zA, zB, zC, eI (hN.1 rfl), eI (hN.2.1 rfl)]; clear hN
     go_wp2_with fail
     exact ⟨rfl, _, rfl, HTT.out _ _ rfl oR⟩
    ·intro x wx ox hN TT HTT; unfold StepTo; simp only [putAll, Act.put, zA, zB, zC, eI (hN.1 rfl)]; clear hN
     go_wp2_with fail
     exact ⟨rfl, _, rfl, HTT.out _ _ rfl oR⟩
    ·intro x wx ox hN TT HTT; unfold StepTo; simp only [putAll, Act.put, zA, zB, zC, eI (hN.1 rfl)]; clear hN; obtain ⟨m1, m2, m3, m4, m5, m6⟩ := HX.out wx ox
     go_wp2_with fail
     exact ⟨rfl, _, rfl, HTT.out _ _ rfl oR⟩
    ·intro x wx ox hN TT HTT; unfold StepTo; simp only [putAll, Act.put, zA, zB, zC, eI (hN.1 rfl)]; clear hN; have ht := HREC.out wx ox; have HT := hid ht; clear ht
     go_wp2_with fail
     refine HT.out.mono ?_
     rintro e w6 ⟨rfl, o6⟩; have O6 := hid o6; clear o6
     go_wp2_with fail
     exact ⟨rfl, _, rfl, HTT.out _ _ rfl (O6.out)⟩
    ·intro x wx ox hN TT HTT; unfold StepTo; simp only [putAll, Act.put, zA, zB, zC, eI (hN.1 rfl), eI (hN.2.1 rfl)]; clear hN
     go_wp2_with fail
     exact ⟨rfl, _, rfl, HTT.out _ _ rfl oR⟩
    ·intro x wx ox hN TT HTT; unfold StepTo; simp only [putAll, Act.put, zA, zB, zC, eI (hN.1 rfl), eI (hN.2.1 rfl)]; clear hN
     go_wp2_with fail
     exact ⟨rfl, _, rfl, HTT.out _ _ rfl oR⟩
    intro xz wxz oxz hN; simp only [putAll, Act.put, zA, zB, zC, eI hN.1, eI hN.2.1, eI hN.2.2.1, eI hN.2.2.2.1, eI hN.2.2.2.2.1, eI hN.2.2.2.2.2.1, eI hN.2.2.2.2.2.2.1, eI hN.2.2.2.2.2.2.2.1, eI hN.2.2.2.2.2.2.2.2.1, eI hN.2.2.2.2.2.2.2.2.2.1, eI hN.2.2.2.2.2.2.2.2.2.2.1, eI hN.2.2.2.2.2.2.2.2.2.2.2.1, eI hN.2.2.2.2.2.2.2.2.2.2.2.2.1, eI hN.2.2.2.2.2.2.2.2.2.2.2.2.2.1, eI hN.2.2.2.2.2.2.2.2.2.2.2.2.2.2.1]; clear hN; have OZ := hid (HO.out.trans ((Only.refl _ wr).drew.trans oxz)); clear oxz
    go_wp2_with fail
    go_roundw
    case rel => exact ⟨i + 1, by simp, by omega, by rw [HA'.out, HNX.out]; simp only [← cat_list], OZ⟩
    case measure => simp [intOf]; omega
   ·have t2 : ((i : Int) == 0) = false := by simp; omega
    rw [if_neg hz] at HNX; clear hz
    go_upto_region 8 with (fail)
    refine wp_region_steps 15 (by kernel_rfl) rfl (by kernel_rfl) [some 17, some 18, some 19, some 20, some 21, some 22, some 23, some 24, some 25, some 26, some 27, some 28, some 29, some 30, some 31] rfl rfl (fun _ => False) [(fun v _ => v = (.string (⟨acc.toArray⟩ ++ ⟨#[44, 32]⟩))), (fun v _ => v = (.slice (some ⟨g, o, none⟩) L c)), (fun v _ => v = (.int .i64 (i : Int))), (fun v _ => v = (.pointer (some ⟨g, o + i * 6, none⟩))), (fun v _ => v = (.pointer (some ⟨g, o + i * 6, none⟩))), (fun v _ => v = (.string ⟨nm.toArray⟩)), (fun v _ => v = (.string (⟨nm.toArray⟩ ++ ⟨#[58, 32]⟩))), (fun v _ => v = (.slice (some ⟨g, o, none⟩) L c)), (fun v _ => v = (.int .i64 (i : Int))), (fun v _ => v = (.pointer (some ⟨g, o + i * 6, none⟩))), (fun v _ => v = (.pointer (some ⟨g, o + i * 6 + 1, none⟩))), (fun v _ => v = (.agg #[.int .u8 (vk : Int), .int .i64 vn, .string ⟨vs.toArray⟩, .slice va vl vc, .slice va2 vl2 vc2])), (fun v _ => v = (.string ⟨rv.toArray⟩)), (fun v _ => v = (.string (⟨nm.toArray⟩ ++ ⟨#[58, 32]⟩ ++ ⟨rv.toArray⟩))), (fun v _ => v = (.string (⟨acc.toArray⟩ ++ ⟨#[44, 32]⟩ ++ (⟨nm.toArray⟩ ++ ⟨#[58, 32]⟩ ++ ⟨rv.toArray⟩))))] rfl ⟨?_, ?_, ?_, ?_, ?_, ?_, ?_, ?_, ?_, ?_, ?_, ?_, ?_, ?_, ?_, trivial⟩ _ rfl ⟨?_, ?_, ?_, ?_, ?_, ?_, ?_, ?_, ?_, ?_, ?_, ?_, ?_, ?_, ?_, trivial⟩ ?_
    iterate 15 exact Stable.is _ _
    ·intro x wx ox hN TT HTT; unfold StepTo; simp only [putAll, Act.put, zA, zB, zC]; clear hN
     go_wp2_with fail
     exact ⟨rfl, _, rfl, HTT.out _ _ rfl oR⟩
    ·intro x wx ox hN TT HTT; unfold StepTo; simp only [putAll, Act.put, zA, zB, zC]; clear hN
     go_wp2_with fail
     exact ⟨rfl, _, rfl, HTT.out _ _ rfl oR⟩
    ·intro x wx ox hN TT HTT; unfold StepTo; simp only [putAll, Act.put, zA, zB, zC]; clear hN
     go_wp2_with fail
     exact ⟨rfl, _, rfl, HTT.out _ _ rfl oR⟩
    ·intro x wx ox hN TT HTT; unfold StepTo; simp only [putAll, Act.put, zA, zB, zC, eI (hN.1 rfl), eI (hN.2.1 rfl)]; clear hN
     go_wp2_with fail
     exact ⟨rfl, _, rfl, HTT.out _ _ rfl oR⟩
    ·intro x wx ox hN TT HTT; unfold StepTo; simp only [putAll, Act.put, zA, zB, zC, eI (hN.1 rfl)]; clear hN
     go_wp2_with fail
     exact ⟨rfl, _, rfl, HTT.out _ _ rfl oR⟩
    ·intro x wx ox hN TT HTT; unfold StepTo; simp only [putAll, Act.put, zA, zB, zC, eI (hN.1 rfl)]; clear hN; obtain ⟨m1, m2, m3, m4, m5, m6⟩ := HX.out wx ox
     go_wp2_with fail
     exact ⟨rfl, _, rfl, HTT.out _ _ rfl oR⟩
    ·intro x wx ox hN TT HTT; unfold StepTo; simp only [putAll, Act.put, zA, zB, zC, eI (hN.1 rfl)]; clear hN
     go_wp2_with fail
     exact ⟨rfl, _, rfl, HTT.out _ _ rfl oR⟩
    ·intro x wx ox hN TT HTT; unfold StepTo; simp only [putAll, Act.put, zA, zB, zC]; clear hN
     go_wp2_with fail
     exact ⟨rfl, _, rfl, HTT.out _ _ rfl oR⟩
    ·intro x wx ox hN TT HTT; unfold StepTo; simp only [putAll, Act.put, zA, zB, zC]; clear hN
     go_wp2_with fail
     exact ⟨rfl, _, rfl, HTT.out _ _ rfl oR⟩
    ·intro x wx ox hN TT HTT; unfold StepTo; simp only [putAll, Act.put, zA, zB, zC, eI (hN.1 rfl), eI (hN.2.1 rfl)]; clear hN
     go_wp2_with fail
     exact ⟨rfl, _, rfl, HTT.out _ _ rfl oR⟩
    ·intro x wx ox hN TT HTT; unfold StepTo; simp only [putAll, Act.put, zA, zB, zC, eI (hN.1 rfl)]; clear hN
     go_wp2_with fail
     exact ⟨rfl, _, rfl, HTT.out _ _ rfl oR⟩
    ·intro x wx ox hN TT HTT; unfold StepTo; simp only [putAll, Act.put, zA, zB, zC, eI (hN.1 rfl)]; clear hN; obtain ⟨m1, m2, m3, m4, m5, m6⟩ := HX.out wx ox
     go_wp2_with fail
     exact ⟨rfl, _, rfl, HTT.out _ _ rfl oR⟩
    ·intro x wx ox hN TT HTT; unfold StepTo; simp only [putAll, Act.put, zA, zB, zC, eI (hN.1 rfl)]; clear hN; have ht := HREC.out wx ox; have HT := hid ht; clear ht
     go_wp2_with fail
     refine HT.out.mono ?_
     rintro e w6 ⟨rfl, o6⟩; have O6 := hid o6; clear o6
     go_wp2_with fail
     exact ⟨rfl, _, rfl, HTT.out _ _ rfl (O6.out)⟩
    ·intro x wx ox hN TT HTT; unfold StepTo; simp only [putAll, Act.put, zA, zB, zC, eI (hN.1 rfl), eI (hN.2.1 rfl)]; clear hN
     go_wp2_with fail
     exact ⟨rfl, _, rfl, HTT.out _ _ rfl oR⟩
    ·intro x wx ox hN TT HTT; unfold StepTo; simp only [putAll, Act.put, zA, zB, zC, eI (hN.1 rfl), eI (hN.2.1 rfl)]; clear hN
     go_wp2_with fail
     exact ⟨rfl, _, rfl, HTT.out _ _ rfl oR⟩
    intro xz wxz oxz hN; simp only [putAll, Act.put, zA, zB, zC, eI hN.1, eI hN.2.1, eI hN.2.2.1, eI hN.2.2.2.1, eI hN.2.2.2.2.1, eI hN.2.2.2.2.2.1, eI hN.2.2.2.2.2.2.1, eI hN.2.2.2.2.2.2.2.1, eI hN.2.2.2.2.2.2.2.2.1, eI hN.2.2.2.2.2.2.2.2.2.1, eI hN.2.2.2.2.2.2.2.2.2.2.1, eI hN.2.2.2.2.2.2.2.2.2.2.2.1, eI hN.2.2.2.2.2.2.2.2.2.2.2.2.1, eI hN.2.2.2.2.2.2.2.2.2.2.2.2.2.1, eI hN.2.2.2.2.2.2.2.2.2.2.2.2.2.2.1]; clear hN; have OZ := hid (HO.out.trans ((Only.refl _ wr).drew.trans oxz)); clear oxz
    go_wp2_with fail
    go_roundw
    case rel => exact ⟨i + 1, by simp, by omega, by rw [HA'.out, HNX.out]; simp only [← cat_list], OZ⟩
    case measure => simp [intOf]; omega
  ·have t1 : decide ((i : Int) < (L : Int)) = false := decide_eq_false (by omega); have hke : i = L := by omega
   subst hke; have hend := HEND.out; rw [HIL.out] at hend
   generalize parB [] its i = acc at *
   by_cases hz : 0 < i
   ·have t2 : decide ((i : Int) > 0) = true := decide_eq_true (by omega); rw [if_pos hz] at hend; have HE := hid hend; clear hend
    go_wp2_with fail
    go_ret
    rw [HE.out, ← cat_list]; exact ⟨rfl, HO.out⟩
   ·have t2 : decide ((i : Int) > 0) = false := decide_eq_false (by omega); rw [if_neg hz, List.append_nil] at hend; have HE := hid hend; clear hend
    go_wp2_with fail
    go_ret
    rw [HE.out]; exact ⟨rfl, HO.out⟩
end Go.Proofs.YtnkpoddbbdmipaaGreatDoor
