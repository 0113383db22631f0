/- . -/
import Derived.Test.YtnkpoddbbdmipaaGreatDoorUaOwD
import Derived.Test.YtnkpoddbbdmipaaGreatDoorUaPjo
import Derived.Test.YtnkpoddbbdmipaaGreatDoorUaPpv
import Derived.Test.YtnkpoddbbdmipaaGreatDoorUaQrp
import Derived.Test.YtnkpoddbbdmipaaGreatDoorUaSdP
import Derived.Test.YtnkpoddbbdmipaaGreatDoorUaSmr
namespace Go.Proofs.YtnkpoddbbdmipaaGreatDoor
open Go Go.RowKit
open Go.Lib (hid)
set_option linter.unusedVariables false
set_option linter.unusedSimpArgs false
theorem arg_renQ (a : AR) : ren (argI a) = a.name ++ [58, 32] ++ ren (valI a.v) := by
 unfold argI pairI; rw [ren_cons, ren_cons, ren_cons]; simp [It.src, nmI, sgI]
set_option maxRecDepth 100000 in
set_option maxHeartbeats 16000000 in
theorem ppA1_any (a : AR) (hw : WellQ a.v) (G : Nat → Prop) (w : World) (cs : List Value) (h : CellsAt w G (argC a) cs) (ht : Tab w) (hl : (ren (argI a)).length ≤ 1000000000000) :
  Calls Tryz.prog 85 #[.agg cs.toArray] w (fun e w' => e = .returned (.string ⟨(ren (argI a)).toArray⟩) ∧ Only (fun _ => False) w w') := by
 obtain ⟨us, rfl, hu⟩ := arg_cells h; have hrec := fun (hlen : (ren (valI a.v)).length ≤ 1000000000000) (wx : World) (ox : Only (fun _ => False) w wx) => ppV_any a.v hw G wx us (CellsAt.only ox (fun _ _ h => h) _ _ hu) (ht.still ox) hlen
 obtain ⟨k, n, s, a1, l1, e1, a2, l2, e2, rfl⟩ := valC_form2 hu; rw [arg_renQ] at hl ⊢; obtain ⟨rv, hrv⟩ := eX (ren (valI a.v)); rw [hrv] at hrec hl ⊢; obtain ⟨nm, hnm⟩ := eX (a.name); rw [hnm] at hl ⊢; simp only [List.length_append, List.length_cons, List.length_nil] at hl; have hkl : nm.length ≤ 1000000000000 := by omega
 have hrl : rv.length ≤ 1000000000000 := by omega
 obtain ⟨bA, hbA⟩ := eX (w.heap.size); obtain ⟨wb, hwb⟩ := eX (w.alloc (.cells #[.string ⟨nm.toArray⟩, .int .u8 (k : Int), .int .i64 n, .string ⟨s.toArray⟩, .slice a1 l1 e1, .slice a2 l2 e2] 48)); have ob : Only (fun _ => False) w wb := by rw [← hwb]; exact (Only.refl _ w).alloc _
 have hx1 : wb.heap[bA]? = some (.cells #[.string ⟨nm.toArray⟩, .int .u8 (k : Int), .int .i64 n, .string ⟨s.toArray⟩, .slice a1 l1 e1, .slice a2 l2 e2] 48 (0, 0)) := by rw [← hwb, ← hbA]; exact heap_new w _
 have HX := hid hx1; have HOB := hid ob; have HWB := hid hwb; have HBA := hid hbA; have HREC := hid (hrec hrl); clear hx1 ob hwb hbA hrec h hu hrv hl; obtain ⟨R, hR⟩ := eX (nm ++ [58, 32] ++ rv); rw [hR]; have HRR := hid hR; clear hnm hR
 go_enter Tryz.func85, Tryz.ntmps85
 go_upto_region 1 with (fail)
 rw [HWB.out, HBA.out]; clear HWB HBA; refine wp_region_steps 7 (by kernel_rfl) rfl (by kernel_rfl) [some 3, some 4, some 5, some 6, some 7, some 8, some 9] rfl rfl (fun _ => False) [(fun v _ => v = (.pointer (some ⟨bA, 0, none⟩))), (fun v _ => v = (.string ⟨nm.toArray⟩)), (fun v _ => v = (.string (⟨nm.toArray⟩ ++ ⟨#[58, 32]⟩))), (fun v _ => v = (.pointer (some ⟨bA, 1, none⟩))), (fun v _ => v = (.agg #[.int .u8 (k : Int), .int .i64 n, .string ⟨s.toArray⟩, .slice a1 l1 e1, .slice a2 l2 e2])), (fun v _ => v = (.string ⟨rv.toArray⟩)), (fun v _ => v = (.string (⟨nm.toArray⟩ ++ ⟨#[58, 32]⟩ ++ ⟨rv.toArray⟩)))] rfl ⟨?_, ?_, ?_, ?_, ?_, ?_, ?_, trivial⟩ _ rfl ⟨?_, ?_, ?_, ?_, ?_, ?_, ?_, trivial⟩ ?_
 iterate 7 exact Stable.is _ _
 ·intro x wx ox hN TT HTT; unfold StepTo; simp only [putAll, Act.put, zA, zB, zC]; clear hN
  go_wp2_with fail
  exact ⟨rfl, _, rfl, HTT.out _ _ (rfl) (Only.refl _ _)⟩
 ·intro x wx ox hN TT HTT; unfold StepTo; simp only [putAll, Act.put, zA, zB, zC, eI (hN.1 rfl)]; clear hN; obtain ⟨x0, x1, x2, x3, x4, x5, -⟩ := boxN6 (((((Only.refl (fun _ => False) wb).drew).trans ox).block bA (Array.getElem?_eq_some_iff.1 HX.out).1 (fun h => h)).trans HX.out)
  go_wp2_with fail
  exact ⟨rfl, _, rfl, HTT.out _ _ (rfl) (Only.refl _ _)⟩
 ·intro x wx ox hN TT HTT; unfold StepTo; simp only [putAll, Act.put, zA, zB, zC, eI (hN.1 rfl)]; clear hN
  go_wp2_with fail
  exact ⟨rfl, _, rfl, HTT.out _ _ (rfl) (Only.refl _ _)⟩
 ·intro x wx ox hN TT HTT; unfold StepTo; simp only [putAll, Act.put, zA, zB, zC]; clear hN
  go_wp2_with fail
  exact ⟨rfl, _, rfl, HTT.out _ _ (rfl) (Only.refl _ _)⟩
 ·intro x wx ox hN TT HTT; unfold StepTo; simp only [putAll, Act.put, zA, zB, zC, eI (hN.1 rfl)]; clear hN; obtain ⟨x0, x1, x2, x3, x4, x5, -⟩ := boxN6 (((((Only.refl (fun _ => False) wb).drew).trans ox).block bA (Array.getElem?_eq_some_iff.1 HX.out).1 (fun h => h)).trans HX.out)
  go_wp2_with fail
  exact ⟨rfl, _, rfl, HTT.out _ _ (rfl) (Only.refl _ _)⟩
 ·intro x wx ox hN TT HTT; unfold StepTo; simp only [putAll, Act.put, zA, zB, zC, eI (hN.1 rfl)]; clear hN; have J := hid (HREC.out wx ((HOB.out.drew).trans ox))
  go_wp2_with fail
  refine J.out.mono ?_
  rintro e w6 ⟨rfl, o6⟩; have O6 := hid o6; clear o6
  go_wp2_with fail
  exact ⟨rfl, _, rfl, HTT.out _ _ (rfl) (O6.out)⟩
 ·intro x wx ox hN TT HTT; unfold StepTo; simp only [putAll, Act.put, zA, zB, zC, eI (hN.1 rfl), eI (hN.2.1 rfl)]; clear hN
  go_wp2_with fail
  exact ⟨rfl, _, rfl, HTT.out _ _ (rfl) (Only.refl _ _)⟩
 intro xz wxz oxz hN; simp only [putAll, Act.put, zA, zB, zC, eI hN.1, eI hN.2.1, eI hN.2.2.1, eI hN.2.2.2.1, eI hN.2.2.2.2.1, eI hN.2.2.2.2.2.1, eI hN.2.2.2.2.2.2.1]; clear hN; have HO9 := hid ((HOB.out.drew).trans oxz); clear oxz
 go_wp2_with fail
 go_ret
 rw [← HRR.out, ← cat_list, ← cat_list]; exact ⟨rfl, HO9.out⟩
set_option maxRecDepth 100000 in
set_option maxHeartbeats 16000000 in
theorem ppA_any (gs : List AR) (hw : ∀ a ∈ gs, WellQ a.v) (G : Nat → Prop) (w : World) (v : Value) (h : CellAt w G (.row 6 (gs.map argC)) v) (ht : Tab w) (hl : (ren (argsI gs)).length ≤ 1000000000000) :
  Calls Tryz.prog 60 #[v] w (fun e w' => e = .returned (.string ⟨(ren (argsI gs)).toArray⟩) ∧ Only (fun _ => False) w w') := by
 obtain ⟨a, c, rfl, k1, k2, k3⟩ := rows_at h; obtain ⟨L, hL⟩ := eX (gs.length)
 by_cases h0 : gs = []
 ·subst h0; have e : ren (argsI []) = [] := rfl; rw [e]; clear hw h ht hl k3 hL; simp only [List.length_nil] at k1 ⊢
  go_enter Tryz.func60, Tryz.ntmps60
  go_wp2_with fail
  go_ret
  exact ⟨rfl, Only.refl _ _⟩
 ·have hLp : 0 < L := by rw [← hL]; exact List.length_pos_iff.2 h0
  have he : ren (argsI gs) = [40] ++ Lib.join (gs.map fun a => ren (argI a)) [44, 32] ++ [41] := by
   unfold argsI parI; rw [if_neg (by simpa using h0), ren_cons, ren_app, sep_join, List.map_map]; rfl
  rw [he] at hl ⊢; have hjl : (Lib.join (gs.map fun a => ren (argI a)) [44, 32]).length ≤ 1000000000000 := by simp at hl; omega
  have J := pjoinA_any gs (fun a => ren (argI a)) G w (.slice a gs.length c) [44, 32] (by decide) h (fun i hi wx cs ox hc => by
   have hpl := sep_part gapI (gs.map argI) i (by rw [List.length_map]; exact hi); rw [sep_join, List.map_map] at hpl; have e : (gs.map argI)[i]'(by rw [List.length_map]; exact hi) = argI gs[i] := by simp
   rw [e] at hpl
   exact ppA1_any gs[i] (hw _ (List.getElem_mem hi)) G wx cs hc (ht.still ox) (Nat.le_trans hpl hjl)) hjl
  obtain ⟨jn, hjn⟩ := eX (Lib.join (gs.map fun a => ren (argI a)) [44, 32]); rw [hjn] at J hjl ⊢; rw [hL] at J k1 ⊢; have J := hid J; have t1 : ((L : Int) == 0) = false := by simp; omega
  obtain ⟨R, hR⟩ : ∃ x, [40] ++ jn ++ [41] = x := ⟨_, rfl⟩; rw [hR]; have HRR := hid hR; clear hR; clear hw h ht hl k3 he hjn hL h0
  go_enter Tryz.func60, Tryz.ntmps60
  go_wp2_with fail
  refine J.out.mono ?_
  rintro e w2 ⟨rfl, o2⟩; have HO2 := hid o2; clear o2
  go_wp2_with fail
  go_ret
  rw [← HRR.out, ← cat_list, ← cat_list]; exact ⟨rfl, HO2.out⟩
def inpB (nm : List UInt8) (t : TR) (has : Bool) (v : VT) : List UInt8 := nm ++ [58, 32] ++ ren (typI t) ++ (if has then [32, 61, 32] ++ ren (valI v) else [])
theorem inp_ren (n : List It) (t : TR) (has : Bool) (v : VT) : ren (inpI n t has v) = inpB (ren n) t has v := by
 unfold inpI inpB; rw [ren_app, ren_cons, ren_cons, ren_app]
 cases has
 ·simp [ren, It.src, sgI]
 ·rw [if_pos rfl, ren_cons, ren_cons, ren_cons]; simp [It.src, sgI]
def flB {α : Type} (f : α → List UInt8) (l : List α) (i : Nat) : List UInt8 := (l.take i).flatMap f
theorem flB_next {α : Type} (f : α → List UInt8) (l : List α) (j : Nat) (h : j < l.length) : flB f l (j + 1) = flB f l j ++ f l[j] := by
 unfold flB; rw [List.take_succ_eq_append_getElem h, List.flatMap_append]; simp
theorem flB_le {α : Type} (f : α → List UInt8) (l : List α) (j : Nat) : (flB f l j).length ≤ (flB f l l.length).length := by
 unfold flB
 conv => rhs; rw [List.take_length, ← List.take_append_drop j l, List.flatMap_append, List.length_append]
 omega
theorem flB_ren {α : Type} (g : α → List It) (f : α → List UInt8) (h : ∀ x, ren (g x) = f x) : ∀ l : List α, ren (l.flatMap g) = flB f l l.length
 | [] => rfl
 | x :: l => by
  have := flB_ren g f h l; unfold flB at this ⊢; rw [List.take_length] at this ⊢; rw [List.flatMap_cons, List.flatMap_cons, ren_app, h, this]
def selB (x : SL) : List UInt8 := [32] ++ ren (selI x)
def dirB (d : DR) : List UInt8 := [32, 64] ++ d.name ++ ren (argsI d.args)
theorem set_ren (l : List SL) : ren (setI l) = [32, 123] ++ flB selB l l.length ++ [32, 125] := by
 unfold setI brI; rw [selsI_map, ren_cons, ren_cons, ren_app, flB_ren _ selB (fun x => by rw [ren_cons]; rfl)]; simp [ren, It.src, sgI]
theorem dirs_ren (l : List DR) : ren (l.flatMap dirI) = flB dirB l l.length := flB_ren _ dirB (fun d => by
 unfold dirI dirB; rw [ren_cons, ren_cons, ren_cons]
 simp [It.src, sgI, nmI]) l
theorem goodV_wellQ (fx : Bool) : ∀ (d : Nat) (v : VT), GoodV fx d v → WellQ v
 | 0, _, h => h.elim
 | d + 1, .mk k n s ks vs, h => by
  rcases h with ⟨rfl, hn, rfl, rfl, rfl⟩ | ⟨rfl, rfl, _, rfl, rfl⟩ | ⟨rfl, hn, rfl, rfl, rfl⟩ | ⟨rfl, rfl, rfl, rfl, rfl⟩ | ⟨rfl, rfl, _, _, _, _, rfl, rfl⟩ | ⟨rfl, _, rfl, _, rfl, rfl⟩ | ⟨rfl, rfl, rfl, rfl, hv⟩ | ⟨rfl, rfl, rfl, ps, rfl, rfl, hp⟩
  ·exact .mk _ _ _ _ _ (by omega) (by unfold NumOk at hn; omega) (.inl rfl) (by simp)
  ·exact .mk _ _ _ _ _ (by omega) (by omega) (.inl rfl) (by simp)
  ·exact .mk _ _ _ _ _ (by omega) (by omega) (.inl rfl) (by simp)
  ·exact .mk _ _ _ _ _ (by omega) (by omega) (.inl rfl) (by simp)
  ·exact .mk _ _ _ _ _ (by omega) (by omega) (.inl rfl) (by simp)
  ·exact .mk _ _ _ _ _ (by omega) (by omega) (.inl rfl) (by simp)
  ·exact .mk _ _ _ _ _ (by omega) (by omega) (.inr (.inl rfl)) (fun v hvv => goodV_wellQ fx d v (hv v hvv))
  ·exact .mk _ _ _ _ _ (by omega) (by omega) (.inr (.inr ⟨rfl, by simp⟩)) (fun v hvv => by
    obtain ⟨p, hpp, rfl⟩ := List.mem_map.1 hvv
    exact goodV_wellQ fx d p.2 (hp p hpp).2)
theorem goodA_wellQ {d : Nat} {a : AR} (h : GoodA d a) : WellQ a.v := goodV_wellQ false d a.v h.2
def PSetC (d : Nat) : Prop := ∀ (l : List SL), GoodS d l → ∀ (G : Nat → Prop) (w : World) (v : Value), CellAt w G (.row 7 (l.map selC)) v → Tab w → (ren (setI l)).length ≤ 1000000000000 →
  Calls Tryz.prog 47 #[v] w (fun e w' => e = .returned (.string ⟨(ren (setI l)).toArray⟩) ∧ Only (fun _ => False) w w')
def PSelC (d : Nat) : Prop := ∀ (x : SL), GoodSel d (GoodS d) x → ∀ (G : Nat → Prop) (w : World) (cs : List Value), CellsAt w G (selC x) cs → Tab w → (ren (selI x)).length ≤ 1000000000000 →
  Calls Tryz.prog 27 #[.agg cs.toArray] w (fun e w' => e = .returned (.string ⟨(ren (selI x)).toArray⟩) ∧ Only (fun _ => False) w w')
theorem flat_join {α : Type} (f : α → List UInt8) (g : List UInt8) : ∀ l : List α, l ≠ [] → l.flatMap (fun x => g ++ f x) = g ++ Lib.join (l.map f) g
 | [], h => absurd rfl h
 | [a], _ => by simp [Lib.join]
 | a :: b :: l, _ => by
  have ih := flat_join f g (b :: l) (by simp); have e : Lib.join ((a :: b :: l).map f) g = f a ++ g ++ Lib.join ((b :: l).map f) g := by simp [Lib.join, List.intercalate, List.intersperse]
  rw [List.flatMap_cons, ih, e]; simp
theorem set_renQ {l : List SL} (h : l ≠ []) : ren (setI l) = [32, 123, 32] ++ Lib.join (l.map fun x => ren (selI x)) [32] ++ [32, 125] := by
 rw [set_ren]; unfold flB selB; rw [List.take_length, flat_join _ [32] l h]; simp
theorem join_part {α : Type} (f : α → List UInt8) (g : List UInt8) : ∀ (l : List α) (i : Nat) (h : i < l.length), (f l[i]).length ≤ (Lib.join (l.map f) g).length
 | [a], 0, _ => by simp [Lib.join]
 | a :: b :: l, 0, _ => by
  have e : Lib.join ((a :: b :: l).map f) g = f a ++ g ++ Lib.join ((b :: l).map f) g := by simp [Lib.join, List.intercalate, List.intersperse]
  rw [e]; simp only [List.length_append, List.getElem_cons_zero]; omega
 | [a], i + 1, h => by simp at h
 | a :: b :: l, i + 1, h => by
  have ih := join_part f g (b :: l) i (by simpa using h); have e : Lib.join ((a :: b :: l).map f) g = f a ++ g ++ Lib.join ((b :: l).map f) g := by simp [Lib.join, List.intercalate, List.intersperse]
  rw [e, List.getElem_cons_succ]; simp only [List.length_append]; omega
set_option maxRecDepth 100000 in
set_option maxHeartbeats 16000000 in
theorem pset_of (d : Nat) (ih : PSelC d) : PSetC (d + 1) := by
 intro l hg G w v h ht hl; have hsr := set_renQ hg.1; rw [hsr] at hl ⊢; obtain ⟨a, c, rfl, k1, k2, k3⟩ := rows_at h; have hjl : (Lib.join (l.map fun x => ren (selI x)) [32]).length ≤ 1000000000000 := by simp at hl; omega
 have J := pjoinS_any l (fun x => ren (selI x)) G w (.slice a l.length c) [32] (by decide) h (fun i hi wx cs ox hc => ih l[i] (hg.2 _ (List.getElem_mem hi)) G wx cs hc (ht.still ox) (Nat.le_trans (join_part (fun x => ren (selI x)) [32] l i hi) hjl)) hjl; obtain ⟨jn, hjn⟩ := eX (Lib.join (l.map fun x => ren (selI x)) [32]); rw [hjn] at J hjl ⊢; obtain ⟨R, hR⟩ : ∃ x, [32, 123, 32] ++ jn ++ [32, 125] = x := ⟨_, rfl⟩; rw [hR]; have HRR := hid hR; have J := hid J; obtain ⟨L, hL⟩ := eX (l.length); rw [hL] at J k1 ⊢; clear h ht hl hsr hjn hR k3 hg ih hL
 go_enter Tryz.func47, Tryz.ntmps47
 go_wp2_with fail
 refine J.out.mono ?_
 rintro e w2 ⟨rfl, o2⟩; have HO2 := hid o2; clear o2
 go_wp2_with fail
 go_ret
 rw [← HRR.out, ← cat_list, ← cat_list]; exact ⟨rfl, HO2.out⟩
set_option maxRecDepth 100000 in
set_option maxHeartbeats 16000000 in
theorem psel_of (d : Nat) (ih : PSetC d) : PSelC d := by
 intro x hx G w cs h ht hl; obtain ⟨k, al, nm, on_, gs, ds, sub⟩ := x; obtain ⟨gv, dv, sv, rfl, hg, hd, hs⟩ := sel_cells h; have hcase := hx.2; have hdirs := hx.1; have hR0 := selI_eq k al nm on_ gs ds sub; obtain ⟨R, hR⟩ := eX (ren (selI (.mk k al nm on_ gs ds sub))); rw [hR] at hl ⊢; rw [hR0, ren_app, ren_app, dirs_ren] at hR; have hl0 := hl; rw [← hR] at hl0; simp only [List.length_append] at hl0; have hga := fun (hh : ∀ a ∈ gs, GoodA d a) (hle : (ren (argsI gs)).length ≤ 1000000000000) (wx : World) (ox : Only (fun _ => False) w wx) => ppA_any gs (fun a ha => goodA_wellQ (hh a ha)) G wx gv (CellAt.only ox (fun _ _ h => h) _ _ hg) (ht.still ox) hle
 have hsa := fun (hh : GoodS d sub) (hle : (ren (setI sub)).length ≤ 1000000000000) (wx : World) (ox : Only (fun _ => False) w wx) => ih sub hh G wx sv (CellAt.only ox (fun _ _ h => h) _ _ hs) (ht.still ox) hle
 obtain ⟨ag, cg, rfl, -, -, -⟩ := rows_at hg; obtain ⟨ad, cd, rfl, n1, n2, n3⟩ := rows_at hd; obtain ⟨as_, cs_, rfl, -, -, -⟩ := rows_at hs; obtain ⟨LG, hLG⟩ := eX (gs.length); obtain ⟨LD, hLD⟩ := eX (ds.length); obtain ⟨LS, hLS⟩ := eX (sub.length); rw [hLG] at hga ⊢; rw [hLD] at n1 hR hl0 ⊢; rw [hLS] at hsa ⊢; obtain ⟨wb, hwb⟩ := eX (w.alloc (.cells #[.int .u8 (k : Int), .string ⟨al.toArray⟩, .string ⟨nm.toArray⟩, .string ⟨on_.toArray⟩, .slice ag LG cg, .slice ad LD cd, .slice as_ LS cs_] 53)); have ob : Only (fun _ => False) w wb := by rw [← hwb]; exact (Only.refl _ w).alloc _
 obtain ⟨bA, hbA⟩ := eX (w.heap.size); have hx1 : wb.heap[bA]? = some (.cells #[.int .u8 (k : Int), .string ⟨al.toArray⟩, .string ⟨nm.toArray⟩, .string ⟨on_.toArray⟩, .slice ag LG cg, .slice ad LD cd, .slice as_ LS cs_] 53 (0, 0)) := by rw [← hwb, ← hbA]; exact heap_new w _
 obtain ⟨pre, hpre⟩ := eX (ren (headI k al nm on_ gs)); rw [hpre] at hR hl0; have HC := hid hx1; have HT := hid (ht.still ob); have HOB := hid ob; have HWB := hid hwb; have HBA := hid hbA; have HGA := hid hga; have HSA := hid hsa; have HND := hid n3; have HLD := hid hLD; have HLS := hid hLS; have HR := hid hR; have HDG := hid hdirs; have HL0 := hid hl0; have HPRE := hid hpre; have HCASE := hid hcase; have hpl : pre.length ≤ 1000000000000 := by omega
 have HPG := hid (show (k = 1 → (ren (argsI gs)).length ≤ 1000000000000 ∧ nm.length ≤ 1000000000000 ∧ (al ≠ [] → al.length ≤ 1000000000000)) ∧ (k = 2 → nm.length ≤ 1000000000000) ∧ (k = 3 → on_ ≠ [] → on_.length ≤ 1000000000000) by
  refine ⟨fun hk => ?_, fun hk => ?_, fun hk ho => ?_⟩
  ·unfold headI at hpre; rw [if_pos hk] at hpre
   by_cases hal : al = []
   ·rw [if_pos hal, ren_app, ren_cons] at hpre; have e := congrArg List.length hpre; simp [It.src, nmI, ren_nil] at e; exact ⟨by omega, by omega, fun h => absurd hal h⟩
   ·rw [if_neg hal, ren_app, ren_cons, ren_cons, ren_cons, ren_cons] at hpre; have e := congrArg List.length hpre; simp [It.src, nmI, sgI, ren_nil] at e; exact ⟨by omega, by omega, fun _ => by omega⟩
  ·unfold headI at hpre; rw [if_neg (by omega), if_pos hk, ren_cons, ren_cons] at hpre; have e := congrArg List.length hpre; simp [It.src, nmI, doI, ren_nil] at e; omega
  ·unfold headI at hpre; rw [if_neg (by omega), if_neg (by omega), if_neg ho, ren_cons, ren_cons, ren_cons, ren_cons, ren_cons] at hpre; have e := congrArg List.length hpre; simp [It.src, nmI, doI, wOn, ren_nil] at e
   omega)
 clear hx1 hwb hbA hga hsa n3 hLG hLD hLS h hg hd hs hx hR hR0 hl hl0 hdirs ih ob hpre hcase ht
 go_enter Tryz.func27, Tryz.ntmps27
 go_upto_region 1 with (fail)
 rw [HWB.out, HBA.out]; clear HWB HBA; obtain ⟨c0, c1, c2, c3, c4, c5, c6, -⟩ := boxN7 HC.out
 go_upto_block 0 with (fail)
 clear c5 c6
 go_cut [3] from 8 to 36 (fun v w' => v = .string ⟨pre.toArray⟩ ∧ Hid (Only (fun _ => False) wb w'))
 case first =>
  rcases HCASE.out with ⟨hk, hon0, hal0, hnm, hgs, hsub0⟩ | ⟨hk, hal0, hon0, hnm, hno, hgs0, hs0⟩ | ⟨hk, hal0, hnm0, hon0, hgs0, hsub0⟩
  ·have u1 : ((k : Int) == 1) = true := by simp; omega
   obtain ⟨hgl, hnl, hall⟩ := HPG.out.1 hk; have J := hid (HGA.out hgs hgl wb HOB.out); obtain ⟨ga, hga⟩ := eX (ren (argsI gs)); rw [hga] at J hgl; have HGAE := hid hga
   by_cases hal : al = []
   ·have hpe : pre = nm ++ ga := by
     rw [← HPRE.out]; unfold headI; rw [if_pos hk, if_pos hal, ren_app, ren_cons, HGAE.out]; simp [It.src, nmI, ren_nil]
    have HPE := hid hpe; have u2 : (al != []) = false := by simp [hal]
    have z2 : (al == []) = true := by simp [hal]
    clear hpe hga hal hall hgs hsub0 hal0 hnm hon0 hk
    go_wp2_with fail
    refine J.out.mono ?_
    rintro e w2 ⟨rfl, o2⟩; have HO2 := hid o2; clear o2 c0 c1 c2 c3 c4
    go_wp2_with fail
    go_meet
    case rel => exact ⟨by rw [HPE.out, ← cat_list], HO2⟩
   ·have hpe : pre = al ++ [58, 32] ++ nm ++ ga := by
     rw [← HPRE.out]; unfold headI; rw [if_pos hk, if_neg hal, ren_app, ren_cons, ren_cons, ren_cons, ren_cons, HGAE.out]; simp [It.src, nmI, sgI, ren_nil]
    have HPE := hid hpe; have hall := hall hal; have u2 : (al != []) = true := by simpa using hal
    have z2 : (al == []) = false := by simpa using hal
    clear hpe hga hal hgs hsub0 hal0 hnm hon0 hk
    go_wp2_with fail
    refine J.out.mono ?_
    rintro e w2 ⟨rfl, o2⟩; have HO2 := hid o2; clear o2 c0 c1 c2 c3 c4
    go_wp2_with fail
    go_meet
    case rel => exact ⟨by rw [HPE.out]; simp only [← cat_list], HO2⟩
  ·have u1 : ((k : Int) == 1) = false := by simp; omega
   have u2 : ((k : Int) == 2) = true := by simp; omega
   have hnl := HPG.out.2.1 hk; have hpe : pre = [46, 46, 46] ++ nm := by
    rw [← HPRE.out]; unfold headI; rw [if_neg (by omega), if_pos hk, ren_cons, ren_cons]; simp [It.src, nmI, doI, ren_nil]
   have HPE := hid hpe; clear hpe hal0 hon0 hnm hno hgs0 hs0 hk
   go_wp2_with fail
   clear c0 c1 c2 c3 c4
   go_meet
   case rel => exact ⟨by rw [HPE.out, ← cat_list], hid (Only.refl _ _)⟩
  ·have u1 : ((k : Int) == 1) = false := by simp; omega
   have u2 : ((k : Int) == 2) = false := by simp; omega
   by_cases ho : on_ = []
   ·have hpe : pre = [46, 46, 46] := by
     rw [← HPRE.out]; unfold headI; rw [if_neg (by omega), if_neg (by omega), if_pos ho, ren_cons]; simp [It.src, doI, ren_nil]
    have HPE := hid hpe; have u3 : (on_ != []) = false := by simp [ho]
    have z3 : (on_ == []) = true := by simp [ho]
    clear hpe hal0 hon0 hnm0 hgs0 hsub0 ho hk
    go_wp2_with fail
    clear c0 c1 c2 c3 c4
    go_meet
    case rel => exact ⟨by rw [HPE.out], hid (Only.refl _ _)⟩
   ·have hpe : pre = [46, 46, 46] ++ ([32, 111, 110, 32] ++ on_) := by
     rw [← HPRE.out]; unfold headI; rw [if_neg (by omega), if_neg (by omega), if_neg ho, ren_cons, ren_cons, ren_cons, ren_cons, ren_cons]; simp [It.src, nmI, doI, wOn, ren_nil]
    have HPE := hid hpe; have hol := HPG.out.2.2 hk ho; have u3 : (on_ != []) = true := by simpa using ho
    have z3 : (on_ == []) = false := by simpa using ho
    clear hpe hal0 hon0 hnm0 hgs0 hsub0 ho hk
    go_wp2_with fail
    clear c0 c1 c2 c3 c4
    go_meet
    case rel => exact ⟨by rw [HPE.out]; simp only [← cat_list], hid (Only.refl _ _)⟩
 case rest =>
 obtain ⟨rfl, HO1⟩ := hcut; obtain ⟨w1, hw1⟩ := eX (wc); rw [hw1] at HO1 ⊢; clear hw1 c0 c1 c2 c3 c4; obtain ⟨c0, c1, c2, c3, c4, c5, c6, -⟩ := boxN7 ((HO1.out.block bA (Array.getElem?_eq_some_iff.1 HC.out).1 (fun h => h)).trans HC.out); clear c0 c1 c2 c3 c4 c6
 go_wp2_with fail
 clear c5
 go_loopw [3, 40] (fun x y wr => ∃ i : Nat, y = .int .i64 (i : Int) ∧ i ≤ LD ∧ x = .string ⟨(pre ++ flB dirB ds i).toArray⟩ ∧ Hid (Only (fun _ => False) wb wr)) (fun _ y _ => LD - (intOf y).toNat)
 case atStart => exact ⟨0, rfl, by omega, by rw [show flB dirB ds 0 = [] from rfl, List.append_nil], HO1⟩
 case round =>
  obtain ⟨j, rfl, hj, rfl, HP⟩ := hrel; have hfl := flB_le dirB ds j; rw [HLD.out] at hfl
  by_cases hlt : j < LD
  ·have t1 : decide ((j : Int) < (LD : Int)) = true := decide_eq_true (by omega); have hi0 : (0 : Int) ≤ (j : Int) := by omega
   have hi1 : (j : Int) < (LD : Int) := by omega
   have hvj : j < ds.length := by rw [HLD.out]; exact hlt
   obtain ⟨gd, od, cs, rfl, -, hr, hc⟩ := HND.out j hvj; obtain ⟨gv2, rfl, hga2⟩ := dir_cells hc; have hfn := flB_next dirB ds j hvj; have hfl2 := flB_le dirB ds (j + 1); rw [HLD.out, hfn] at hfl2; have hdb : dirB ds[j] = [32, 64] ++ ds[j].name ++ ren (argsI ds[j].args) := rfl; rw [hdb] at hfl2 hfn; simp only [List.length_append, List.length_cons, List.length_nil] at hfl2; have hl0 := HL0.out; have hgl : (ren (argsI ds[j].args)).length ≤ 1000000000000 := by omega
   have hrec := fun (wx : World) (ox : Only (fun _ => False) wb wx) => ppA_any ds[j].args (fun a ha => goodA_wellQ ((HDG.out _ (List.getElem_mem hvj)).2 a ha)) G wx gv2 (CellAt.only (HOB.out.trans ox) (fun _ _ h => h) _ _ hga2) (HT.out.still ox) hgl
   obtain ⟨a2, c2, rfl⟩ := row_form hga2; obtain ⟨l2, hl2⟩ := eX ((ds[j].args.map argC).length); rw [hl2] at hrec hr; obtain ⟨ga, hga⟩ := eX (ren (argsI ds[j].args)); obtain ⟨dn, hdn⟩ := eX (ds[j].name); rw [hga] at hrec hgl hfl2 hfn; rw [hdn] at hfl2 hfn hr; have e0 := keepc (HOB.out.trans HP.out) (hr 0 _ rfl); have e1 := keepc (HOB.out.trans HP.out) (hr 1 _ rfl); rw [Nat.add_zero] at e0; have hdl : dn.length ≤ 1000000000000 := by omega
   obtain ⟨X, hX⟩ := eX (wr.heap.size); obtain ⟨w4, hw4⟩ := eX (wr.alloc (.cells #[.string ⟨dn.toArray⟩, .slice a2 l2 c2] 96)); have o4 : Only (fun _ => False) wr w4 := by rw [← hw4]; exact (Only.refl _ _).alloc _
   have hx4 : w4.heap[X]? = some (.cells #[.string ⟨dn.toArray⟩, .slice a2 l2 c2] 96 (0, 0)) := by rw [← hw4, ← hX]; exact heap_new _ _
   obtain ⟨acc, hacc⟩ := eX (pre ++ flB dirB ds j); have hal : acc.length ≤ 1000000000000 := by rw [← hacc, List.length_append]; omega
   have hnx : pre ++ flB dirB ds (j + 1) = acc ++ ([32, 64] ++ dn ++ ga) := by rw [hfn, ← hacc]; simp only [List.append_assoc]
   rw [hacc]; have HNX := hid hnx; have HREC := hid hrec; have HX := hid hX; have HW4 := hid hw4; have HO4 := hid (HP.out.trans o4); have HX4 := hid hx4; clear hnx hrec hX hw4 o4 hx4 hacc hfn hfl hfl2 hdb hl0 hga hdn hl2 hga2 hr hc
   go_upto_region 15 with (fail)
   rw [HX.out, HW4.out]; clear e0 e1 HX HW4; refine wp_region_steps 9 (by kernel_rfl) rfl (by kernel_rfl) [some 44, some 45, some 46, some 47, some 48, some 49, some 50, some 51, some 52] rfl rfl (fun _ => False) [(fun v _ => v = (.string ⟨acc.toArray⟩)), (fun v _ => v = (.pointer (some ⟨X, 0, none⟩))), (fun v _ => v = (.string ⟨dn.toArray⟩)), (fun v _ => v = (.string (⟨#[32, 64]⟩ ++ ⟨dn.toArray⟩))), (fun v _ => v = (.pointer (some ⟨X, 1, none⟩))), (fun v _ => v = (.slice a2 l2 c2)), (fun v _ => v = (.string ⟨ga.toArray⟩)), (fun v _ => v = (.string (⟨#[32, 64]⟩ ++ ⟨dn.toArray⟩ ++ ⟨ga.toArray⟩))), (fun v _ => v = (.string (⟨acc.toArray⟩ ++ (⟨#[32, 64]⟩ ++ ⟨dn.toArray⟩ ++ ⟨ga.toArray⟩))))] rfl ⟨?_, ?_, ?_, ?_, ?_, ?_, ?_, ?_, ?_, trivial⟩ _ rfl ⟨?_, ?_, ?_, ?_, ?_, ?_, ?_, ?_, ?_, trivial⟩ ?_
   iterate 9 exact Stable.is _ _
   ·intro x wx ox hN TT HTT; unfold StepTo; simp only [putAll, Act.put, zA, zB, zC]; clear hN
    go_wp2_with fail
    exact ⟨rfl, _, rfl, HTT.out _ _ (rfl) (Only.refl _ _)⟩
   ·intro x wx ox hN TT HTT; unfold StepTo; simp only [putAll, Act.put, zA, zB, zC]; clear hN
    go_wp2_with fail
    exact ⟨rfl, _, rfl, HTT.out _ _ (rfl) (Only.refl _ _)⟩
   ·intro x wx ox hN TT HTT; unfold StepTo; simp only [putAll, Act.put, zA, zB, zC, eI (hN.1 rfl)]; clear hN; obtain ⟨x0, x1, -⟩ := boxN2 (((((Only.refl (fun _ => False) w4).drew).trans ox).block X (Array.getElem?_eq_some_iff.1 HX4.out).1 (fun h => h)).trans HX4.out)
    go_wp2_with fail
    exact ⟨rfl, _, rfl, HTT.out _ _ (rfl) (Only.refl _ _)⟩
   ·intro x wx ox hN TT HTT; unfold StepTo; simp only [putAll, Act.put, zA, zB, zC, eI (hN.1 rfl)]; clear hN
    go_wp2_with fail
    exact ⟨rfl, _, rfl, HTT.out _ _ (rfl) (Only.refl _ _)⟩
   ·intro x wx ox hN TT HTT; unfold StepTo; simp only [putAll, Act.put, zA, zB, zC]; clear hN
    go_wp2_with fail
    exact ⟨rfl, _, rfl, HTT.out _ _ (rfl) (Only.refl _ _)⟩
   ·intro x wx ox hN TT HTT; unfold StepTo; simp only [putAll, Act.put, zA, zB, zC, eI (hN.1 rfl)]; clear hN; obtain ⟨x0, x1, -⟩ := boxN2 (((((Only.refl (fun _ => False) w4).drew).trans ox).block X (Array.getElem?_eq_some_iff.1 HX4.out).1 (fun h => h)).trans HX4.out)
    go_wp2_with fail
    exact ⟨rfl, _, rfl, HTT.out _ _ (rfl) (Only.refl _ _)⟩
   ·intro x wx ox hN TT HTT; unfold StepTo; simp only [putAll, Act.put, zA, zB, zC, eI (hN.1 rfl)]; clear hN; have J := hid (HREC.out wx ((HO4.out.drew).trans ox))
    go_wp2_with fail
    refine J.out.mono ?_
    rintro e w6 ⟨rfl, o6⟩; have O6 := hid o6; clear o6
    go_wp2_with fail
    exact ⟨rfl, _, rfl, HTT.out _ _ (rfl) (O6.out)⟩
   ·intro x wx ox hN TT HTT; unfold StepTo; simp only [putAll, Act.put, zA, zB, zC, eI (hN.1 rfl), eI (hN.2.1 rfl)]; clear hN
    go_wp2_with fail
    exact ⟨rfl, _, rfl, HTT.out _ _ (rfl) (Only.refl _ _)⟩
   ·intro x wx ox hN TT HTT; unfold StepTo; simp only [putAll, Act.put, zA, zB, zC, eI (hN.1 rfl), eI (hN.2.1 rfl)]; clear hN
    go_wp2_with fail
    exact ⟨rfl, _, rfl, HTT.out _ _ (rfl) (Only.refl _ _)⟩
   intro xz wxz oxz hN; simp only [putAll, Act.put, zA, zB, zC, eI hN.1, eI hN.2.1, eI hN.2.2.1, eI hN.2.2.2.1, eI hN.2.2.2.2.1, eI hN.2.2.2.2.2.1, eI hN.2.2.2.2.2.2.1, eI hN.2.2.2.2.2.2.2.1, eI hN.2.2.2.2.2.2.2.2.1]; clear hN; have HO9 := hid ((HO4.out.drew).trans oxz); clear oxz HO4 HX4
   go_wp2_with fail
   go_roundw
   case rel => exact ⟨j + 1, by simp, by omega, by rw [HNX.out]; simp only [← cat_list], HO9⟩
   case measure => simp [intOf]; omega
  ·have t1 : decide ((j : Int) < (LD : Int)) = false := decide_eq_false (by omega); have hjL : j = LD := by omega
   subst hjL; obtain ⟨acc, hacc⟩ := eX (pre ++ flB dirB ds j); have hal : acc.length ≤ 1000000000000 := by have := HL0.out; rw [← hacc, List.length_append]; omega
   obtain ⟨c0, c1, c2, c3, c4, c5, c6, -⟩ := boxN7 ((HP.out.block bA (Array.getElem?_eq_some_iff.1 HC.out).1 (fun h => h)).trans HC.out)
   by_cases hs0 : sub = []
   ·have hRf : acc = R := by rw [← HR.out, if_pos hs0, ren_nil, List.append_nil, hacc]
    have hL0 : LS = 0 := by rw [← HLS.out, hs0]; rfl
    rw [hacc, hRf]; have HOF := hid (HOB.out.trans HP.out); clear hacc hRf hal hfl hs0 c0 c1 c2 c3 c4 c5 HLS HSA; subst hL0
    go_wp2_with fail
    clear c6
    go_ret
    exact ⟨rfl, HOF.out⟩
   ·have hgsub : GoodS d sub := by
     rcases HCASE.out with ⟨_, _, _, _, _, h⟩ | ⟨_, _, _, _, _, _, h⟩ | ⟨_, _, _, _, _, h⟩
     ·exact h.resolve_left hs0
     ·exact absurd h hs0
     ·exact h
    have hLp : 0 < LS := by rw [← HLS.out]; exact List.length_pos_iff.2 hs0
    have hsl : (ren (setI sub)).length ≤ 1000000000000 := by have := HL0.out; rw [if_neg hs0] at this; omega
    have J := hid (HSA.out hgsub hsl wr (HOB.out.trans HP.out)); have hRf : R = acc ++ ren (setI sub) := by rw [← HR.out, if_neg hs0, hacc]
    obtain ⟨st, hst⟩ := eX (ren (setI sub)); rw [hst] at J hsl hRf; rw [hacc]; have HRF := hid hRf; have t2 : decide ((LS : Int) > 0) = true := decide_eq_true (by omega); have HP2 := hid (HOB.out.trans HP.out); clear hacc hRf hst hfl hs0 hgsub c0 c1 c2 c3 c4 c5
    go_wp2_with fail
    refine J.out.mono ?_
    rintro e w6 ⟨rfl, o6⟩; have HOF := hid (HP2.out.trans o6); clear o6 c6
    go_wp2_with fail
    go_ret
    rw [HRF.out, ← cat_list]; exact ⟨rfl, HOF.out⟩
theorem psetC_all : ∀ d, PSetC d
 | 0 => fun l hg => hg.elim
 | d + 1 => pset_of d (psel_of d (psetC_all d))
set_option maxRecDepth 100000 in
set_option maxHeartbeats 8000000 in
theorem ppI_any (nm : List UInt8) (t : TR) (has : Bool) (v : VT) (hw : has = true → WellQ v) (G : Nat → Prop) (w : World) (cs ds : List Value) (h : CellsAt w G (trC t) cs) (h' : CellsAt w G (valC v) ds) (ht : Tab w) (hl : (inpB nm t has v).length ≤ 1000000000000) :
  Calls Tryz.prog 46 #[.string ⟨nm.toArray⟩, .agg cs.toArray, .bool has, .agg ds.toArray] w (fun e w' => e = .returned (.string ⟨(inpB nm t has v).toArray⟩) ∧ Only (fun _ => False) w w') := by
 have hl0 := hl; unfold inpB at hl0; simp only [List.length_append] at hl0; have hlt : (ren (typI t)).length ≤ 1000000000000 := by omega
 have hln : nm.length ≤ 1000000000000 := by omega
 have hta := fun (wx : World) (ox : Only (fun _ => False) w wx) => ppT_any t G wx cs (CellsAt.only ox (fun _ _ h => h) _ _ h) hlt
 have hva := fun (wx : World) (ox : Only (fun _ => False) w wx) (hh : has = true) => ppV_any v (hw hh) G wx ds (CellsAt.only ox (fun _ _ h => h) _ _ h') (ht.still ox) (by rw [if_pos hh, List.length_append] at hl0; omega)
 have hvl : has = true → (ren (valI v)).length ≤ 1000000000000 := fun hh => by rw [if_pos hh, List.length_append] at hl0; omega
 obtain ⟨s1, a1, l1, c1, b1, rfl⟩ := trC_form2 h; obtain ⟨k, n, s2, a2, l2, e2, a3, l3, e3, rfl⟩ := valC_form2 h'; obtain ⟨R, hR⟩ := eX (inpB nm t has v); rw [hR]; obtain ⟨wb, hwb⟩ := eX ((w.alloc (.cells #[.string ⟨s1.toArray⟩, .slice a1 l1 c1, .bool b1] 41)).alloc (.cells #[.int .u8 (k : Int), .int .i64 n, .string ⟨s2.toArray⟩, .slice a2 l2 e2, .slice a3 l3 e3] 35)); have ob : Only (fun _ => False) w wb := by rw [← hwb]; exact ((Only.refl _ w).alloc _).alloc _
 obtain ⟨bA, hbA⟩ := eX (w.heap.size); obtain ⟨bB, hbB⟩ := eX (bA + 1); have hx1 : wb.heap[bA]? = some (.cells #[.string ⟨s1.toArray⟩, .slice a1 l1 c1, .bool b1] 41 (0, 0)) := by rw [← hwb, ← hbA]; exact heap_old (heap_new w _) _
 have hx2 : wb.heap[bB]? = some (.cells #[.int .u8 (k : Int), .int .i64 n, .string ⟨s2.toArray⟩, .slice a2 l2 e2, .slice a3 l3 e3] 35 (0, 0)) := by
  rw [← hwb, ← hbB, ← hbA]; have := heap_new (w.alloc (.cells #[.string ⟨s1.toArray⟩, .slice a1 l1 c1, .bool b1] 41)) (.cells #[.int .u8 (k : Int), .int .i64 n, .string ⟨s2.toArray⟩, .slice a2 l2 e2, .slice a3 l3 e3] 35); rw [World.size_alloc] at this; exact this
 obtain ⟨c0, c1', c2, -⟩ := boxN3 hx1; obtain ⟨d0, d1, d2, d3, d4, -⟩ := boxN5 hx2; have HD := hid (And.intro d0 (And.intro d1 (And.intro d2 (And.intro d3 d4)))); have HOB := hid ob; have HWB := hid hwb; have HBA := hid hbA; have HBB := hid hbB; have HT := hid (hta wb ob); have HV := hid (fun (wx : World) (ox : Only (fun _ => False) wb wx) => hva wx (HOB.out.trans ox)); clear hx1 hx2 ob hwb hbA hbB h h' hta hva hw hl hl0 ht; unfold inpB at hR
 generalize ren (typI t) = rt at *
 cases has with
 | false =>
  rw [if_neg (by decide), List.append_nil] at hR; have HR := hid hR; clear hR
  go_enter Tryz.func46, Tryz.ntmps46
  go_upto_region 1 with (fail)
  rw [HWB.out, HBA.out, HBB.out]
  go_wp2_with fail
  refine HT.out.mono ?_
  rintro e w6 ⟨rfl, o6⟩; have HO6 := hid (HOB.out.trans o6); clear c0 c1' c2 d0 d1 d2 d3 d4 o6
  go_wp2_with fail
  go_ret
  rw [← HR.out]; simp only [← cat_list]; exact ⟨rfl, HO6.out⟩
 | true =>
  rw [if_pos rfl] at hR; have hl2 := hvl rfl; clear hvl; have HV' := hid (fun wx ox => HV.out wx ox rfl); have hR2 := hR
  generalize ren (valI v) = rv at *
  have HR := hid hR; clear hR hR2 HV
  go_enter Tryz.func46, Tryz.ntmps46
  go_upto_region 1 with (fail)
  rw [HWB.out, HBA.out, HBB.out]
  go_wp2_with fail
  refine HT.out.mono ?_
  rintro e w6 ⟨rfl, o6⟩; have HV6 := hid (HV'.out w6 o6); obtain ⟨z0, z1, z2, z3, z4⟩ := HD.out; have z0 := keepc o6 z0; have z1 := keepc o6 z1; have z2 := keepc o6 z2; have z3 := keepc o6 z3; have z4 := keepc o6 z4; have HO6 := hid (HOB.out.trans o6); clear c0 c1' c2 d0 d1 d2 d3 d4 o6 HV'
  go_wp2_with fail
  refine HV6.out.mono ?_
  rintro e w7 ⟨rfl, o7⟩; have HO7 := hid (HO6.out.trans o7); clear z0 z1 z2 z3 z4 o7
  go_wp2_with fail
  go_ret
  rw [← HR.out]; simp only [← cat_list]; exact ⟨rfl, HO7.out⟩
theorem doc_cells {w : World} {G : Nat → Prop} {d : DC} {x y : Value} (h : CellsAt w G (docC d) [x, y]) : CellAt w G (.row 4 (d.ops.map opC)) x ∧ CellAt w G (.row 3 (d.frags.map frC)) y := by
 obtain ⟨v1, us, e, h1, h⟩ := cells_cons h
 injection e with e1 e2; subst e1; subst e2
 obtain ⟨v2, us, e, h2, h⟩ := cells_cons h
 injection e with e1 e2; subst e1
 exact ⟨h1, h2⟩
theorem var_ren (v : VD) : ren (varI v) = [36] ++ inpB v.name v.t v.has v.v := by
 unfold varI; rw [ren_cons, inp_ren]; simp [ren, It.src, sgI, nmI]
theorem op_ren (mu : Bool) (nm : List UInt8) (vds : List VD) (sub : List SL) : ren (opI ⟨mu, nm, vds, sub⟩) = (if mu then [109, 117, 116, 97, 116, 105, 111, 110] else [113, 117, 101, 114, 121]) ++ (if nm = [] then [] else [32] ++ nm) ++ ren (parI (vds.map varI)) ++ ren (setI sub) := by
 unfold opI; rw [ren_cons, ren_app, ren_app]
 cases mu <;> by_cases h : nm = [] <;> simp [h, ren, It.src, nmI, wMutation, wQuery]
theorem fr_ren (f : FR) : ren (frI f) = [102, 114, 97, 103, 109, 101, 110, 116, 32] ++ f.name ++ [32, 111, 110, 32] ++ f.on_ ++ ren (setI f.sub) := by
 unfold frI; simp only [ren_cons]; simp [It.src, nmI, wFragment, wOn]
end Go.Proofs.YtnkpoddbbdmipaaGreatDoor
