/- print: arguments. The document's printer: inputs and fields. The document's printer: selections and sets. -/
import Derived.Test.YtnkpoddbbdmipaaGreatDoorNaPpw
import Derived.Test.YtnkpoddbbdmipaaGreatDoorNaPjo
import Derived.Test.YtnkpoddbbdmipaaGreatDoorNaPpv
import Derived.Test.YtnkpoddbbdmipaaGreatDoorNaTyr
import Derived.Test.YtnkpoddbbdmipaaGreatDoorNaSdP
import Derived.Test.YtnkpoddbbdmipaaGreatDoorNaEnD
import Derived.Test.YtnkpoddbbdmipaaGreatDoorNaTys
import Derived.Test.YtnkpoddbbdmipaaGreatDoorNaOwD
namespace Go.Proofs.YtnkpoddbbdmipaaGreatDoor
open Go Go.RowKit
set_option linter.unusedVariables false
set_option linter.unusedSimpArgs false

theorem arg_renQ (a : AR) : ren (argI a) = a.name ++ [58, 32] ++ ren (valI a.v) := by
 unfold argI pairI
 rw [ren_cons, ren_cons, ren_cons]
 simp [It.src, nmI, sgI]
set_option maxRecDepth 100000 in
set_option maxHeartbeats 16000000 in
theorem ppA1_any (a : AR) (hw : WellQ a.v) (G : Nat → Prop) (w : World) (cs : List Value) (h : CellsAt w G (argC a) cs) (ht : Tab w) (hl : (ren (argI a)).length ≤ 1000000000000) :
  Calls Tryz.prog 85 #[.agg cs.toArray] w (fun e w' => e = .returned (.string ⟨(ren (argI a)).toArray⟩) ∧ Only (fun _ => False) w w') := by
 obtain ⟨us, rfl, hu⟩ := arg_cells h
 have hrec := fun (hlen : (ren (valI a.v)).length ≤ 1000000000000) (wx : World) (ox : Only (fun _ => False) w wx) => ppV_any a.v hw G wx us (CellsAt.only ox (fun _ _ h => h) _ _ hu) (ht.still ox) hlen
 obtain ⟨k, n, s, a1, l1, e1, a2, l2, e2, rfl⟩ := valC_form2 hu
 rw [arg_renQ] at hl ⊢
 obtain ⟨rv, hrv⟩ : ∃ r, ren (valI a.v) = r := ⟨_, rfl⟩
 rw [hrv] at hrec hl ⊢
 obtain ⟨nm, hnm⟩ : ∃ r, a.name = r := ⟨_, rfl⟩
 rw [hnm] at hl ⊢
 simp only [List.length_append, List.length_cons, List.length_nil] at hl
 have hkl : nm.length ≤ 1000000000000 := by omega
 have hrl : rv.length ≤ 1000000000000 := by omega
 obtain ⟨bA, hbA⟩ : ∃ b, w.heap.size = b := ⟨_, rfl⟩
 obtain ⟨wb, hwb⟩ : ∃ wb, w.alloc (.cells #[.string ⟨nm.toArray⟩, .int .u8 (k : Int), .int .i64 n, .string ⟨s.toArray⟩, .slice a1 l1 e1, .slice a2 l2 e2] 48) = wb := ⟨_, rfl⟩
 have ob : Only (fun _ => False) w wb := by rw [← hwb]; exact (Only.refl _ w).alloc _
 have hx1 : wb.heap[bA]? = some (.cells #[.string ⟨nm.toArray⟩, .int .u8 (k : Int), .int .i64 n, .string ⟨s.toArray⟩, .slice a1 l1 e1, .slice a2 l2 e2] 48 (0, 0)) := by rw [← hwb, ← hbA]; exact heap_new w _
 have HX := Lib.hid hx1; have HOB := Lib.hid ob; have HWB := Lib.hid hwb; have HBA := Lib.hid hbA; have HREC := Lib.hid (hrec hrl)
 clear hx1 ob hwb hbA hrec h hu hrv hl
 obtain ⟨R, hR⟩ : ∃ x, nm ++ [58, 32] ++ rv = x := ⟨_, rfl⟩
 rw [hR]
 have HRR := Lib.hid hR
 clear hnm hR
 go_enter Tryz.func85, Tryz.ntmps85
 go_upto_region 1 with (fail)
 rw [HWB.out, HBA.out]
 clear HWB HBA
 refine wp_region_steps 7 (by kernel_rfl) rfl (by kernel_rfl) [some 3, some 4, some 5, some 6, some 7, some 8, some 9] rfl rfl (fun _ => False) [(fun v _ => v = (.pointer (some ⟨bA, 0, none⟩))), (fun v _ => v = (.string ⟨nm.toArray⟩)), (fun v _ => v = (.string (⟨nm.toArray⟩ ++ ⟨#[58, 32]⟩))), (fun v _ => v = (.pointer (some ⟨bA, 1, none⟩))), (fun v _ => v = (.agg #[.int .u8 (k : Int), .int .i64 n, .string ⟨s.toArray⟩, .slice a1 l1 e1, .slice a2 l2 e2])), (fun v _ => v = (.string ⟨rv.toArray⟩)), (fun v _ => v = (.string (⟨nm.toArray⟩ ++ ⟨#[58, 32]⟩ ++ ⟨rv.toArray⟩)))] rfl ⟨?_, ?_, ?_, ?_, ?_, ?_, ?_, trivial⟩ _ rfl ⟨?_, ?_, ?_, ?_, ?_, ?_, ?_, trivial⟩ ?_
 ·exact Stable.is _ _
 ·exact Stable.is _ _
 ·exact Stable.is _ _
 ·exact Stable.is _ _
 ·exact Stable.is _ _
 ·exact Stable.is _ _
 ·exact Stable.is _ _
 ·intro x wx ox hN TT HTT
  clear hN
  unfold StepTo
  simp only [putAll, Act.put, List.setIfInBounds_toArray, List.set_cons_succ, List.set_cons_zero]
  go_wp2_with fail
  exact ⟨rfl, _, rfl, HTT.out _ _ (rfl) (Only.refl _ _)⟩
 ·intro x wx ox hN TT HTT
  have r3 : x 0 = (.pointer (some ⟨bA, 0, none⟩)) := hN.1 rfl
  clear hN
  unfold StepTo
  simp only [putAll, Act.put, List.setIfInBounds_toArray, List.set_cons_succ, List.set_cons_zero, r3]
  clear r3
  obtain ⟨x0, x1, x2, x3, x4, x5, -⟩ := boxN6 (((((Only.refl (fun _ => False) wb).drew).trans ox).block bA (Array.getElem?_eq_some_iff.1 HX.out).1 (fun h => h)).trans HX.out)
  go_wp2_with fail
  exact ⟨rfl, _, rfl, HTT.out _ _ (rfl) (Only.refl _ _)⟩
 ·intro x wx ox hN TT HTT
  have r4 : x 1 = (.string ⟨nm.toArray⟩) := hN.1 rfl
  clear hN
  unfold StepTo
  simp only [putAll, Act.put, List.setIfInBounds_toArray, List.set_cons_succ, List.set_cons_zero, r4]
  clear r4
  go_wp2_with fail
  exact ⟨rfl, _, rfl, HTT.out _ _ (rfl) (Only.refl _ _)⟩
 ·intro x wx ox hN TT HTT
  clear hN
  unfold StepTo
  simp only [putAll, Act.put, List.setIfInBounds_toArray, List.set_cons_succ, List.set_cons_zero]
  go_wp2_with fail
  exact ⟨rfl, _, rfl, HTT.out _ _ (rfl) (Only.refl _ _)⟩
 ·intro x wx ox hN TT HTT
  have r6 : x 3 = (.pointer (some ⟨bA, 1, none⟩)) := hN.1 rfl
  clear hN
  unfold StepTo
  simp only [putAll, Act.put, List.setIfInBounds_toArray, List.set_cons_succ, List.set_cons_zero, r6]
  clear r6
  obtain ⟨x0, x1, x2, x3, x4, x5, -⟩ := boxN6 (((((Only.refl (fun _ => False) wb).drew).trans ox).block bA (Array.getElem?_eq_some_iff.1 HX.out).1 (fun h => h)).trans HX.out)
  go_wp2_with fail
  exact ⟨rfl, _, rfl, HTT.out _ _ (rfl) (Only.refl _ _)⟩
 ·intro x wx ox hN TT HTT
  have r7 : x 4 = (.agg #[.int .u8 (k : Int), .int .i64 n, .string ⟨s.toArray⟩, .slice a1 l1 e1, .slice a2 l2 e2]) := hN.1 rfl
  clear hN
  unfold StepTo
  simp only [putAll, Act.put, List.setIfInBounds_toArray, List.set_cons_succ, List.set_cons_zero, r7]
  clear r7
  have J := Lib.hid (HREC.out wx ((HOB.out.drew).trans ox))
  go_wp2_with fail
  refine J.out.mono ?_
  rintro e w6 ⟨rfl, o6⟩
  have O6 := Lib.hid o6; clear o6
  go_wp2_with fail
  exact ⟨rfl, _, rfl, HTT.out _ _ (rfl) (O6.out)⟩
 ·intro x wx ox hN TT HTT
  have r5 : x 2 = (.string (⟨nm.toArray⟩ ++ ⟨#[58, 32]⟩)) := hN.1 rfl
  have r8 : x 5 = (.string ⟨rv.toArray⟩) := hN.2.1 rfl
  clear hN
  unfold StepTo
  simp only [putAll, Act.put, List.setIfInBounds_toArray, List.set_cons_succ, List.set_cons_zero, r5, r8]
  clear r5 r8
  go_wp2_with fail
  exact ⟨rfl, _, rfl, HTT.out _ _ (rfl) (Only.refl _ _)⟩
 intro xz wxz oxz hN
 have r3 : xz 0 = (.pointer (some ⟨bA, 0, none⟩)) := hN.1
 have r4 : xz 1 = (.string ⟨nm.toArray⟩) := hN.2.1
 have r5 : xz 2 = (.string (⟨nm.toArray⟩ ++ ⟨#[58, 32]⟩)) := hN.2.2.1
 have r6 : xz 3 = (.pointer (some ⟨bA, 1, none⟩)) := hN.2.2.2.1
 have r7 : xz 4 = (.agg #[.int .u8 (k : Int), .int .i64 n, .string ⟨s.toArray⟩, .slice a1 l1 e1, .slice a2 l2 e2]) := hN.2.2.2.2.1
 have r8 : xz 5 = (.string ⟨rv.toArray⟩) := hN.2.2.2.2.2.1
 have r9 : xz 6 = (.string (⟨nm.toArray⟩ ++ ⟨#[58, 32]⟩ ++ ⟨rv.toArray⟩)) := hN.2.2.2.2.2.2.1
 clear hN
 simp only [putAll, Act.put, List.setIfInBounds_toArray, List.set_cons_succ, List.set_cons_zero, r3, r4, r5, r6, r7, r8, r9]
 clear r3 r4 r5 r6 r7 r8 r9
 have HO9 := Lib.hid ((HOB.out.drew).trans oxz)
 clear oxz
 go_wp2_with fail
 go_ret
 rw [← HRR.out, ← cat_list, ← cat_list]
 exact ⟨rfl, HO9.out⟩
set_option maxRecDepth 100000 in
set_option maxHeartbeats 16000000 in
theorem ppA_any (gs : List AR) (hw : ∀ a ∈ gs, WellQ a.v) (G : Nat → Prop) (w : World) (v : Value) (h : CellAt w G (.row 6 (gs.map argC)) v) (ht : Tab w) (hl : (ren (argsI gs)).length ≤ 1000000000000) :
  Calls Tryz.prog 60 #[v] w (fun e w' => e = .returned (.string ⟨(ren (argsI gs)).toArray⟩) ∧ Only (fun _ => False) w w') := by
 obtain ⟨a, c, rfl, k1, k2, k3⟩ := rows_at h
 obtain ⟨L, hL⟩ : ∃ L, gs.length = L := ⟨_, rfl⟩
 by_cases h0 : gs = []
 ·subst h0
  have e : ren (argsI []) = [] := rfl
  rw [e]
  clear hw h ht hl k3 hL
  simp only [List.length_nil] at k1 ⊢
  go_enter Tryz.func60, Tryz.ntmps60
  go_wp2_with fail
  go_ret
  exact ⟨rfl, Only.refl _ _⟩
 ·have hLp : 0 < L := by rw [← hL]; exact List.length_pos_iff.2 h0
  have he : ren (argsI gs) = [40] ++ Lib.join (gs.map fun a => ren (argI a)) [44, 32] ++ [41] := by
   unfold argsI parI
   rw [if_neg (by simpa using h0), ren_cons, ren_app, sep_join, List.map_map]; rfl
  rw [he] at hl ⊢
  have hjl : (Lib.join (gs.map fun a => ren (argI a)) [44, 32]).length ≤ 1000000000000 := by simp at hl; omega
  have J := pjoinA_any gs (fun a => ren (argI a)) G w (.slice a gs.length c) [44, 32] (by decide) h (fun i hi wx cs ox hc => by
   have hpl := sep_part gapI (gs.map argI) i (by rw [List.length_map]; exact hi)
   rw [sep_join, List.map_map] at hpl
   have e : (gs.map argI)[i]'(by rw [List.length_map]; exact hi) = argI gs[i] := by simp
   rw [e] at hpl
   exact ppA1_any gs[i] (hw _ (List.getElem_mem hi)) G wx cs hc (ht.still ox) (Nat.le_trans hpl hjl)) hjl
  obtain ⟨jn, hjn⟩ : ∃ x, Lib.join (gs.map fun a => ren (argI a)) [44, 32] = x := ⟨_, rfl⟩
  rw [hjn] at J hjl ⊢
  rw [hL] at J k1 ⊢
  have J := Lib.hid J
  have t1 : ((L : Int) == 0) = false := by simp; omega
  obtain ⟨R, hR⟩ : ∃ x, [40] ++ jn ++ [41] = x := ⟨_, rfl⟩
  rw [hR]
  have HRR := Lib.hid hR
  clear hR
  clear hw h ht hl k3 he hjn hL h0
  go_enter Tryz.func60, Tryz.ntmps60
  go_wp2_with fail
  refine J.out.mono ?_
  rintro e w2 ⟨rfl, o2⟩
  have HO2 := Lib.hid o2
  clear o2
  go_wp2_with fail
  go_ret
  rw [← HRR.out, ← cat_list, ← cat_list]
  exact ⟨rfl, HO2.out⟩
end Go.Proofs.YtnkpoddbbdmipaaGreatDoor
namespace Go.Proofs.YtnkpoddbbdmipaaGreatDoor
open Go Go.RowKit
set_option linter.unusedVariables false
set_option linter.unusedSimpArgs false

def inpB (nm : List UInt8) (t : TR) (has : Bool) (v : VT) : List UInt8 := nm ++ [58, 32] ++ ren (typI t) ++ (if has then [32, 61, 32] ++ ren (valI v) else [])
theorem inp_ren (n : List It) (t : TR) (has : Bool) (v : VT) : ren (inpI n t has v) = inpB (ren n) t has v := by
 unfold inpI inpB
 rw [ren_app, ren_cons, ren_cons, ren_app]
 cases has
 ·simp [ren, It.src, sgI]
 ·rw [if_pos rfl, ren_cons, ren_cons, ren_cons]; simp [It.src, sgI]
end Go.Proofs.YtnkpoddbbdmipaaGreatDoor
namespace Go.Proofs.YtnkpoddbbdmipaaGreatDoor
open Go Go.RowKit
set_option linter.unusedVariables false
set_option linter.unusedSimpArgs false

/-- The first i of some things, each as bytes. -/
def flB {α : Type} (f : α → List UInt8) (l : List α) (i : Nat) : List UInt8 := (l.take i).flatMap f
theorem flB_next {α : Type} (f : α → List UInt8) (l : List α) (j : Nat) (h : j < l.length) : flB f l (j + 1) = flB f l j ++ f l[j] := by
 unfold flB
 rw [List.take_succ_eq_append_getElem h, List.flatMap_append]
 simp
theorem flB_le {α : Type} (f : α → List UInt8) (l : List α) (j : Nat) : (flB f l j).length ≤ (flB f l l.length).length := by
 unfold flB
 conv => rhs; rw [List.take_length, ← List.take_append_drop j l, List.flatMap_append, List.length_append]
 omega
theorem flB_ren {α : Type} (g : α → List It) (f : α → List UInt8) (h : ∀ x, ren (g x) = f x) : ∀ l : List α, ren (l.flatMap g) = flB f l l.length
 | [] => rfl
 | x :: l => by
  have := flB_ren g f h l
  unfold flB at this ⊢
  rw [List.take_length] at this ⊢
  rw [List.flatMap_cons, List.flatMap_cons, ren_app, h, this]
def selB (x : SL) : List UInt8 := [32] ++ ren (selI x)
def dirB (d : DR) : List UInt8 := [32, 64] ++ d.name ++ ren (argsI d.args)
theorem set_ren (l : List SL) : ren (setI l) = [32, 123] ++ flB selB l l.length ++ [32, 125] := by
 unfold setI brI
 rw [selsI_map, ren_cons, ren_cons, ren_app, flB_ren _ selB (fun x => by rw [ren_cons]; rfl)]
 simp [ren, It.src, sgI]
theorem dirs_ren (l : List DR) : ren (l.flatMap dirI) = flB dirB l l.length := flB_ren _ dirB (fun d => by
 unfold dirI dirB
 rw [ren_cons, ren_cons, ren_cons]
 simp [It.src, sgI, nmI]) l
end Go.Proofs.YtnkpoddbbdmipaaGreatDoor
