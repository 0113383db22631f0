/- . -/
import Derived.Test.YtnkpoddbbdmipaaGreatDoorTApPrk
import Derived.Test.YtnkpoddbbdmipaaGreatDoorTApSms
namespace Go.Proofs.YtnkpoddbbdmipaaGreatDoor
open Go Go.RowKit
open Go.Lib (hid)
set_option linter.unusedVariables false
set_option linter.unusedSimpArgs false
def flB {α : Type} (f : α → List UInt8) (l : List α) (i : Nat) : List UInt8 := (l.take i).flatMap f
theorem flB_next {α : Type} (f : α → List UInt8) (l : List α) (j : Nat) (h : j < l.length) : flB f l (j + 1) = flB f l j ++ f l[j] := by
 unfold flB; rw [List.take_succ_eq_append_getElem h, List.flatMap_append]; simp
theorem flB_le {α : Type} (f : α → List UInt8) (l : List α) (j : Nat) : (flB f l j).length ≤ (flB f l l.length).length := by
 unfold flB
 conv => rhs; rw [List.take_length, ← List.take_append_drop j l, List.flatMap_append, List.length_append]
 omega
theorem flB_ren {α : Type} (g : α → List It) (f : α → List UInt8) (h : ∀ x, ren (g x) = f x) : ∀ l : List α, ren (l.flatMap g) = flB f l l.length
 | [] => rfl
 | x :: l => by
  have := flB_ren g f h l; unfold flB at this ⊢; rw [List.take_length] at this ⊢; rw [List.flatMap_cons, List.flatMap_cons, ren_app, h, this]
def selB (x : SL) : List UInt8 := [32] ++ ren (selI x)
def dirB (d : DR) : List UInt8 := [32, 64] ++ d.name ++ ren (argsI d.args)
theorem set_ren (l : List SL) : ren (setI l) = [32, 123] ++ flB selB l l.length ++ [32, 125] := by
 unfold setI brI; rw [selsI_map, ren_cons, ren_cons, ren_app, flB_ren _ selB (fun x => by rw [ren_cons]; rfl)]; simp [ren, It.src, sgI]
theorem dirs_ren (l : List DR) : ren (l.flatMap dirI) = flB dirB l l.length := flB_ren _ dirB (fun d => by
 unfold dirI dirB; rw [ren_cons, ren_cons, ren_cons]
 simp [It.src, sgI, nmI]) l
theorem goodV_wellP (fx : Bool) : ∀ (d : Nat) (v : VT), GoodV fx d v → WellV v
 | 0, _, h => h.elim
 | d + 1, .mk k n s ks vs, h => by
  rcases h with ⟨rfl, hn, rfl, rfl, rfl⟩ | ⟨rfl, rfl, _, rfl, rfl⟩ | ⟨rfl, hn, rfl, rfl, rfl⟩ | ⟨rfl, rfl, rfl, rfl, rfl⟩ | ⟨rfl, rfl, _, _, _, _, rfl, rfl⟩ | ⟨rfl, _, rfl, _, rfl, rfl⟩ | ⟨rfl, rfl, rfl, rfl, hv⟩ | ⟨rfl, rfl, rfl, ps, rfl, rfl, hp⟩
  ·exact .mk _ _ _ _ _ (by unfold NumOk at hn; omega) (.inl rfl) (by simp)
  ·exact .mk _ _ _ _ _ (by omega) (.inl rfl) (by simp)
  ·exact .mk _ _ _ _ _ (by omega) (.inl rfl) (by simp)
  ·exact .mk _ _ _ _ _ (by omega) (.inl rfl) (by simp)
  ·exact .mk _ _ _ _ _ (by omega) (.inl rfl) (by simp)
  ·exact .mk _ _ _ _ _ (by omega) (.inl rfl) (by simp)
  ·exact .mk _ _ _ _ _ (by omega) (.inr (.inl rfl)) (fun v hvv => goodV_wellP fx d v (hv v hvv))
  ·exact .mk _ _ _ _ _ (by omega) (.inr (.inr ⟨rfl, by simp⟩)) (fun v hvv => by
    obtain ⟨p, hpp, rfl⟩ := List.mem_map.1 hvv
    exact goodV_wellP fx d p.2 (hp p hpp).2)
theorem goodA_well {d : Nat} {a : AR} (h : GoodA d a) : WellV a.v := goodV_wellP false d a.v h.2
def SetC (d : Nat) : Prop := ∀ (l : List SL), GoodS d l → ∀ (G : Nat → Prop) (w : World) (v : Value), CellAt w G (.row 7 (l.map selC)) v → (ren (setI l)).length ≤ 1000000000000 →
  Calls Tryz.prog 50 #[v] w (fun e w' => e = .returned (.string ⟨(ren (setI l)).toArray⟩) ∧ Only (fun _ => False) w w')
def SelC (d : Nat) : Prop := ∀ (x : SL), GoodSel d (GoodS d) x → ∀ (G : Nat → Prop) (w : World) (cs : List Value), CellsAt w G (selC x) cs → (ren (selI x)).length ≤ 1000000000000 →
  Calls Tryz.prog 28 #[.agg cs.toArray] w (fun e w' => e = .returned (.string ⟨(ren (selI x)).toArray⟩) ∧ Only (fun _ => False) w w')
set_option maxRecDepth 100000 in
set_option maxHeartbeats 16000000 in
theorem set_of (d : Nat) (ih : SelC d) : SetC (d + 1) := by
 intro l hg G w v h hl; obtain ⟨a, c, rfl, k1, k2, k3⟩ := rows_at h; obtain ⟨L, hL⟩ := eX (l.length); have hg2 : ∀ x ∈ l, GoodSel d (GoodS d) x := hg.2; have hr := set_ren l; rw [hL] at hr; obtain ⟨R, hR⟩ := eX (ren (setI l)); rw [hR] at hl hr ⊢; rw [hL] at k1 ⊢; have hfl : (flB selB l L).length + 4 ≤ 1000000000000 := by rw [hr] at hl; simp only [List.length_append, List.length_cons, List.length_nil] at hl; omega
 have HK := hid k3; have HL := hid hL; have HG := hid hg2; have HR := hid hr; have HFL := hid hfl; have IH := hid ih; clear h hg hg2 hr hR hfl hl hL k3 ih
 go_enter Tryz.func50, Tryz.ntmps50
 go_wp2_with fail
 go_loopw [3, 4] (fun x y wr => ∃ i : Nat, y = .int .i64 (i : Int) ∧ i ≤ L ∧ x = .string ⟨([32, 123] ++ flB selB l i).toArray⟩ ∧ Hid (Only (fun _ => False) w wr)) (fun _ y _ => L - (intOf y).toNat)
 case atStart => exact ⟨0, rfl, by omega, by rw [show flB selB l 0 = [] from rfl]; rfl, hid oR⟩
 case round =>
  obtain ⟨i, rfl, hi, rfl, HO⟩ := hrel; have hle := flB_le selB l i; have hal : ([32, 123] ++ flB selB l i).length ≤ 1000000000000 := by have h1 := HFL.out; have h2 := HL.out; rw [h2] at hle; simp only [List.length_append, List.length_cons, List.length_nil]; omega
  by_cases hlt : i < L
  ·have t1 : decide ((i : Int) < (L : Int)) = true := decide_eq_true (by omega); have hi0 : (0 : Int) ≤ (i : Int) := by omega
   have hi1 : (i : Int) < (L : Int) := by omega
   have hvi : i < l.length := by rw [HL.out]; exact hlt
   have hnx := flB_next selB l i hvi; have hle2 := flB_le selB l (i + 1); rw [HL.out] at hle2; have hle3 := Nat.le_trans (Nat.add_le_add_right hle2 4) HFL.out; rw [hnx] at hle3; unfold selB at hle3; simp only [List.length_append, List.length_cons, List.length_nil] at hle3; have hgs := HG.out l[i] (List.getElem_mem hvi); obtain ⟨g, o, xs, rfl, -, q1, q2⟩ := HK.out i hvi; have hrl : (ren (selI l[i])).length ≤ 1000000000000 := by omega
   have hrec := IH.out l[i] hgs G wr xs (CellsAt.only HO.out (fun _ _ h => h) _ _ q2) hrl; have hnx : flB selB l (i + 1) = flB selB l i ++ ([32] ++ ren (selI l[i])) := hnx
   generalize ren (selI l[i]) = rv at *
   obtain ⟨k', al', nm', on', gs', ds', sub', hsl⟩ : ∃ k al nm on_ gs ds sub, l[i] = .mk k al nm on_ gs ds sub := by
    cases hq : l[i] with
    | mk k al nm on_ gs ds sub => exact ⟨_, _, _, _, _, _, _, rfl⟩
   rw [hsl] at q2; obtain ⟨gv, dv, sv, rfl, hgv, hdv, hsv⟩ := sel_cells q2; obtain ⟨ag', cg', rfl, -, -, -⟩ := rows_at hgv; obtain ⟨ad', cd', rfl, -, -, -⟩ := rows_at hdv; obtain ⟨as', cs', rfl, -, -, -⟩ := rows_at hsv; obtain ⟨y0, y1, y2, y3, y4, y5, y6⟩ := cells7_of q1; have y0 := keepc HO.out y0; have y1 := keepc HO.out y1; have y2 := keepc HO.out y2; have y3 := keepc HO.out y3; have y4 := keepc HO.out y4; have y5 := keepc HO.out y5; have y6 := keepc HO.out y6; obtain ⟨Q, hQ⟩ : ∃ Q, [32, 123] ++ flB selB l i = Q := ⟨_, rfl⟩; have hQ' : [32, 123] ++ flB selB l (i + 1) = Q ++ ([32] ++ rv) := by rw [hnx, ← hQ]; simp only [List.append_assoc]
   rw [hQ] at hal ⊢; have HQ' := hid hQ'; have HREC := hid hrec; clear hQ hQ' hnx hle hle2 hle3 hgs hrec hsl q1 q2 hgv hdv hsv
   go_wp2_with fail
   refine HREC.out.mono ?_
   rintro e w6 ⟨rfl, o6⟩; have HO6 := hid (HO.out.trans o6); clear o6 y0 y1 y2 y3 y4 y5 y6
   go_wp2_with fail
   go_roundw
   case rel => exact ⟨i + 1, by simp, by omega, by rw [HQ'.out]; simp only [← cat_list], HO6⟩
   case measure => simp [intOf]; omega
  ·have t1 : decide ((i : Int) < (L : Int)) = false := decide_eq_false (by omega); have hke : i = L := by omega
   subst hke; have hr := HR.out; obtain ⟨Q, hQ⟩ : ∃ Q, [32, 123] ++ flB selB l i = Q := ⟨_, rfl⟩; rw [hQ] at hal hr ⊢; have HR2 := hid hr; clear hr hQ hle
   go_wp2_with fail
   go_ret
   rw [HR2.out]; simp only [← cat_list]; exact ⟨rfl, HO.out⟩
set_option maxRecDepth 100000 in
set_option maxHeartbeats 64000000 in
theorem sel_of (d : Nat) (ih : SetC d) : SelC d := by
 intro x hx G w cs h hl; obtain ⟨k, al, nm, on_, gs, ds, sub⟩ := x; obtain ⟨gv, dv, sv, rfl, hg, hd, hs⟩ := sel_cells h; have hcase := hx.2; have hdirs := hx.1; have hR0 := selI_eq k al nm on_ gs ds sub; obtain ⟨R, hR⟩ := eX (ren (selI (.mk k al nm on_ gs ds sub))); rw [hR] at hl ⊢; rw [hR0, ren_app, ren_app, dirs_ren] at hR; have hl0 := hl; rw [← hR] at hl0; simp only [List.length_append] at hl0; have hga := fun (hh : ∀ a ∈ gs, GoodA d a) (hle : (ren (argsI gs)).length ≤ 1000000000000) (wx : World) (ox : Only (fun _ => False) w wx) => prA_any gs (fun a ha => goodA_well (hh a ha)) G wx gv (CellAt.only ox (fun _ _ h => h) _ _ hg) hle
 have hsa := fun (hh : GoodS d sub) (hle : (ren (setI sub)).length ≤ 1000000000000) (wx : World) (ox : Only (fun _ => False) w wx) => ih sub hh G wx sv (CellAt.only ox (fun _ _ h => h) _ _ hs) hle
 obtain ⟨ag, cg, rfl, -, -, -⟩ := rows_at hg; obtain ⟨ad, cd, rfl, n1, n2, n3⟩ := rows_at hd; obtain ⟨as_, cs_, rfl, -, -, -⟩ := rows_at hs; obtain ⟨LG, hLG⟩ := eX (gs.length); obtain ⟨LD, hLD⟩ := eX (ds.length); obtain ⟨LS, hLS⟩ := eX (sub.length); rw [hLG] at hga ⊢; rw [hLD] at n1 hR hl0 ⊢; rw [hLS] at hsa ⊢; obtain ⟨wb, hwb⟩ := eX (w.alloc (.cells #[.int .u8 (k : Int), .string ⟨al.toArray⟩, .string ⟨nm.toArray⟩, .string ⟨on_.toArray⟩, .slice ag LG cg, .slice ad LD cd, .slice as_ LS cs_] 53)); have ob : Only (fun _ => False) w wb := by rw [← hwb]; exact (Only.refl _ w).alloc _
 obtain ⟨bA, hbA⟩ := eX (w.heap.size); have hx1 : wb.heap[bA]? = some (.cells #[.int .u8 (k : Int), .string ⟨al.toArray⟩, .string ⟨nm.toArray⟩, .string ⟨on_.toArray⟩, .slice ag LG cg, .slice ad LD cd, .slice as_ LS cs_] 53 (0, 0)) := by rw [← hwb, ← hbA]; exact heap_new w _
 obtain ⟨c0, c1, c2, c3, c4, c5, c6, -⟩ := boxN7 hx1; have HC := hid (And.intro c0 (And.intro c1 (And.intro c2 (And.intro c3 (And.intro c4 (And.intro c5 c6)))))); have HOB := hid ob; have HWB := hid hwb; have HBA := hid hbA; have HGA := hid hga; have HSA := hid hsa; have HND := hid n3; have HLD := hid hLD; have HLS := hid hLS; have HR := hid hR; have HDG := hid hdirs; have HL0 := hid hl0; clear hx1 hwb hbA hga hsa n3 hLG hLD hLS h hg hd hs hx hR hR0 hl hl0 hdirs ih ob
 rcases hcase with ⟨hk, hon0, hal0, hnm, hgs, hsub0⟩ | ⟨hk, hal0, hon0, hnm, hno, hgs0, hs0⟩ | ⟨hk, hal0, hnm0, hon0, hgs0, hsub0⟩
 ·have hsub : sub ≠ [] → GoodS d sub := fun hh => hsub0.resolve_left hh
  by_cases hal : al = []
  ·clear hnm hal0 hsub0 hon0; have u1 : ((k : Int) == 1) = true := by simp; omega
   have hhd : ren (headI k al nm on_ gs) = nm ++ ren (argsI gs) := by unfold headI; rw [if_pos hk, if_pos hal, ren_app, ren_cons]; simp [ren, It.src, nmI, sgI]
   have hR := HR.out; have hl0 := HL0.out; rw [hhd] at hR hl0; obtain ⟨hd, hhd2⟩ : ∃ h : List UInt8, nm ++ ren (argsI gs) = h := ⟨_, rfl⟩; rw [hhd2] at hR hl0; have hl1 := hl0; rw [← hhd2] at hl1; simp only [List.length_append, List.length_cons, List.length_nil] at hl1; have HHD := hid hhd2; have HR1 := hid hR; have HL1 := hid hl0; have hgl : (ren (argsI gs)).length ≤ 1000000000000 := by omega
   have hnl : nm.length ≤ 1000000000000 := by omega
   have hga := HGA.out hgs hgl; have HREC := hid (fun (wx : World) (ox : Only (fun _ => False) wb.drew wx) => hga wx (HOB.out.trans ((Only.refl _ wb).drew.trans ox))); have HX := hid (fun (wx : World) (ox : Only (fun _ => False) wb.drew wx) => have o := (Only.refl _ wb).drew.trans ox; And.intro (keepc o c2) (keepc o c4))
   generalize ren (argsI gs) = ga at *
   subst hal; have HK := hid hk; clear hga hhd hhd2 hR hl0 hl1 hgs hk
   go_enter Tryz.func28, Tryz.ntmps28
   go_upto_region 1 with (fail)
   rw [HWB.out, HBA.out]
   go_upto_region 9 with (fail)
   clear c0 c1 c2 c3 c4 c5 c6; refine wp_region_steps 8 (by kernel_rfl) rfl (by kernel_rfl) [some 23, some 24, some 25, some 26, some 27, some 28, some 29, some 30] rfl rfl (fun _ => False) [(fun v _ => v = (.string ⟨#[]⟩)), (fun v _ => v = (.pointer (some ⟨bA, 2, none⟩))), (fun v _ => v = (.string ⟨nm.toArray⟩)), (fun v _ => v = (.pointer (some ⟨bA, 4, none⟩))), (fun v _ => v = (.slice ag LG cg)), (fun v _ => v = (.string ⟨ga.toArray⟩)), (fun v _ => v = (.string (⟨nm.toArray⟩ ++ ⟨ga.toArray⟩))), (fun v _ => v = (.string (⟨nm.toArray⟩ ++ ⟨ga.toArray⟩)))] rfl ⟨?_, ?_, ?_, ?_, ?_, ?_, ?_, ?_, trivial⟩ _ rfl ⟨?_, ?_, ?_, ?_, ?_, ?_, ?_, ?_, trivial⟩ ?_
   iterate 8 exact Stable.is _ _
   ·intro x wx ox hN TT HTT; unfold StepTo; simp only [putAll, Act.put, zA, zB, zC]; clear hN
    go_wp2_with fail
    exact ⟨rfl, _, rfl, HTT.out _ _ rfl oR⟩
   ·intro x wx ox hN TT HTT; unfold StepTo; simp only [putAll, Act.put, zA, zB, zC]; clear hN
    go_wp2_with fail
    exact ⟨rfl, _, rfl, HTT.out _ _ rfl oR⟩
   ·intro x wx ox hN TT HTT; unfold StepTo; simp only [putAll, Act.put, zA, zB, zC, eI (hN.1 rfl)]; clear hN; obtain ⟨m1, m2⟩ := HX.out wx ox
    go_wp2_with fail
    exact ⟨rfl, _, rfl, HTT.out _ _ rfl oR⟩
   ·intro x wx ox hN TT HTT; unfold StepTo; simp only [putAll, Act.put, zA, zB, zC]; clear hN
    go_wp2_with fail
    exact ⟨rfl, _, rfl, HTT.out _ _ rfl oR⟩
   ·intro x wx ox hN TT HTT; unfold StepTo; simp only [putAll, Act.put, zA, zB, zC, eI (hN.1 rfl)]; clear hN; obtain ⟨m1, m2⟩ := HX.out wx ox
    go_wp2_with fail
    exact ⟨rfl, _, rfl, HTT.out _ _ rfl oR⟩
   ·intro x wx ox hN TT HTT; unfold StepTo; simp only [putAll, Act.put, zA, zB, zC, eI (hN.1 rfl)]; clear hN; have ht := HREC.out wx ox; have HT := hid ht; clear ht
    go_wp2_with fail
    refine HT.out.mono ?_
    rintro e w6 ⟨rfl, o6⟩; have O6 := hid o6; clear o6
    go_wp2_with fail
    exact ⟨rfl, _, rfl, HTT.out _ _ rfl (O6.out)⟩
   ·intro x wx ox hN TT HTT; unfold StepTo; simp only [putAll, Act.put, zA, zB, zC, eI (hN.1 rfl), eI (hN.2.1 rfl)]; clear hN
    go_wp2_with fail
    exact ⟨rfl, _, rfl, HTT.out _ _ rfl oR⟩
   ·intro x wx ox hN TT HTT; unfold StepTo; simp only [putAll, Act.put, zA, zB, zC, eI (hN.1 rfl), eI (hN.2.1 rfl)]; clear hN
    go_wp2_with fail
    exact ⟨rfl, _, rfl, HTT.out _ _ rfl oR⟩
   intro xz wxz oxz hN; simp only [putAll, Act.put, zA, zB, zC, eI hN.1, eI hN.2.1, eI hN.2.2.1, eI hN.2.2.2.1, eI hN.2.2.2.2.1, eI hN.2.2.2.2.2.1, eI hN.2.2.2.2.2.2.1, eI hN.2.2.2.2.2.2.2.1]; clear hN; have OZ := hid ((Only.refl _ wb).drew.trans oxz); clear oxz; obtain ⟨c0, c1, c2, c3, c4, c5, c6⟩ := HC.out; have c0 := keepc OZ.out c0; have c1 := keepc OZ.out c1; have c2 := keepc OZ.out c2; have c3 := keepc OZ.out c3; have c4 := keepc OZ.out c4; have c5 := keepc OZ.out c5; have c6 := keepc OZ.out c6
   go_wp2_with fail
   clear c0 c1 c2 c3 c4 c5 c6
   go_loopw [3, 4] (fun x y wr => ∃ i : Nat, y = .int .i64 (i : Int) ∧ i ≤ LD ∧ x = .string ⟨(hd ++ flB dirB ds i).toArray⟩ ∧ Hid (Only (fun _ => False) wb wr)) (fun _ y _ => LD - (intOf y).toNat)
   case atStart => exact ⟨0, rfl, by omega, by rw [show flB dirB ds 0 = [] from rfl, List.append_nil, ← HHD.out]; simp only [← cat_list], OZ⟩
   case round =>
    obtain ⟨j, rfl, hj, rfl, HP⟩ := hrel; obtain ⟨c0, c1, c2, c3, c4, c5, c6⟩ := HC.out; have c5 := keepc HP.out c5; have c6 := keepc HP.out c6; have hle := flB_le dirB ds j; rw [HLD.out] at hle; have hl1 := HL1.out; have hal2 : (hd ++ flB dirB ds j).length ≤ 1000000000000 := by rw [List.length_append]; omega
    by_cases hltj : j < LD
    ·have t4 : decide ((j : Int) < (LD : Int)) = true := decide_eq_true (by omega); have hj0 : (0 : Int) ≤ (j : Int) := by omega
     have hj1 : (j : Int) < (LD : Int) := by omega
     have hjl : j < ds.length := by rw [HLD.out]; exact hltj
     have hnx := flB_next dirB ds j hjl; have hle2 := flB_le dirB ds (j + 1); rw [HLD.out, hnx] at hle2; rw [List.length_append] at hle2; have hdb : (dirB ds[j]).length = 2 + ds[j].name.length + (ren (argsI ds[j].args)).length := by unfold dirB; simp only [List.length_append, List.length_cons, List.length_nil]
     obtain ⟨gd, od, ys, rfl, -, p1, p2⟩ := HND.out j hjl; obtain ⟨av, rfl, ha⟩ := dir_cells p2; have hdg := (HDG.out ds[j] (List.getElem_mem hjl)).2; have hgl2 : (ren (argsI ds[j].args)).length ≤ 1000000000000 := by omega
     have hdn : ds[j].name.length ≤ 1000000000000 := by omega
     have hrec := fun (wx : World) (ox : Only (fun _ => False) w wx) => prA_any ds[j].args (fun a ha => goodA_well (hdg a ha)) G wx av (CellAt.only ox (fun _ _ h => h) _ _ ha) hgl2
     obtain ⟨ax, cx, rfl, -, -, -⟩ := rows_at ha; obtain ⟨e0, e1⟩ := cells2_of p1; have hnx : flB dirB ds (j + 1) = flB dirB ds j ++ ([32, 64] ++ ds[j].name ++ ren (argsI ds[j].args)) := hnx
     generalize ren (argsI ds[j].args) = rg at *
     generalize ds[j].args.length = LX at *
     generalize ds[j].name = dn at *
     obtain ⟨Q, hQ⟩ := eX (hd ++ flB dirB ds j); have hQ' : hd ++ flB dirB ds (j + 1) = Q ++ ([32, 64] ++ dn ++ rg) := by rw [hnx, ← hQ]; simp only [List.append_assoc]
     rw [hQ] at hal2 ⊢; have HQ' := hid hQ'; have oww : Only (fun _ => False) w wr := HOB.out.trans HP.out; have HX2 := hid (fun (wx : World) (ox : Only (fun _ => False) wr.drew wx) => have o := (Only.refl _ wr).drew.trans ox; have ow := oww.trans o; And.intro (keepc o c5) (And.intro (keepc ow e0) (keepc ow e1))); have HREC2 := hid (fun (wx : World) (ox : Only (fun _ => False) wr.drew wx) => hrec wx (oww.trans ((Only.refl _ wr).drew.trans ox))); clear hdb hQ hQ' hnx hle hle2 hl1 p1 p2 ha hrec e0 e1 oww c0 c1 c2 c3 c4 c6 hdg
     go_upto_region 15 with (fail)
     clear c5; refine wp_region_steps 17 (by kernel_rfl) rfl (by kernel_rfl) [some 43, some 44, some 45, some 46, some 47, some 48, some 49, some 50, some 51, some 52, some 53, some 54, some 55, some 56, some 57, some 58, some 59] rfl rfl (fun _ => False) [(fun v _ => v = (.string ⟨Q.toArray⟩)), (fun v _ => v = (.pointer (some ⟨bA, 5, none⟩))), (fun v _ => v = (.slice (some ⟨gd, od, none⟩) LD cd)), (fun v _ => v = (.int .i64 (j : Int))), (fun v _ => v = (.pointer (some ⟨gd, od + j * 2, none⟩))), (fun v _ => v = (.pointer (some ⟨gd, od + j * 2, none⟩))), (fun v _ => v = (.string ⟨dn.toArray⟩)), (fun v _ => v = (.string (⟨#[32, 64]⟩ ++ ⟨dn.toArray⟩))), (fun v _ => v = (.pointer (some ⟨bA, 5, none⟩))), (fun v _ => v = (.slice (some ⟨gd, od, none⟩) LD cd)), (fun v _ => v = (.int .i64 (j : Int))), (fun v _ => v = (.pointer (some ⟨gd, od + j * 2, none⟩))), (fun v _ => v = (.pointer (some ⟨gd, od + j * 2 + 1, none⟩))), (fun v _ => v = (.slice ax LX cx)), (fun v _ => v = (.string ⟨rg.toArray⟩)), (fun v _ => v = (.string (⟨#[32, 64]⟩ ++ ⟨dn.toArray⟩ ++ ⟨rg.toArray⟩))), (fun v _ => v = (.string (⟨Q.toArray⟩ ++ (⟨#[32, 64]⟩ ++ ⟨dn.toArray⟩ ++ ⟨rg.toArray⟩))))] rfl ⟨?_, ?_, ?_, ?_, ?_, ?_, ?_, ?_, ?_, ?_, ?_, ?_, ?_, ?_, ?_, ?_, ?_, trivial⟩ _ rfl ⟨?_, ?_, ?_, ?_, ?_, ?_, ?_, ?_, ?_, ?_, ?_, ?_, ?_, ?_, ?_, ?_, ?_, trivial⟩ ?_
     iterate 17 exact Stable.is _ _
     ·intro x wx ox hN TT HTT; unfold StepTo; simp only [putAll, Act.put, zA, zB, zC]; clear hN
      go_wp2_with fail
      exact ⟨rfl, _, rfl, HTT.out _ _ rfl oR⟩
     ·intro x wx ox hN TT HTT; unfold StepTo; simp only [putAll, Act.put, zA, zB, zC]; clear hN
      go_wp2_with fail
      exact ⟨rfl, _, rfl, HTT.out _ _ rfl oR⟩
     ·intro x wx ox hN TT HTT; unfold StepTo; simp only [putAll, Act.put, zA, zB, zC, eI (hN.1 rfl)]; clear hN; obtain ⟨m1, m2, m3⟩ := HX2.out wx ox
      go_wp2_with fail
      exact ⟨rfl, _, rfl, HTT.out _ _ rfl oR⟩
     ·intro x wx ox hN TT HTT; unfold StepTo; simp only [putAll, Act.put, zA, zB, zC]; clear hN
      go_wp2_with fail
      exact ⟨rfl, _, rfl, HTT.out _ _ rfl oR⟩
     ·intro x wx ox hN TT HTT; unfold StepTo; simp only [putAll, Act.put, zA, zB, zC, eI (hN.1 rfl), eI (hN.2.1 rfl)]; clear hN
      go_wp2_with fail
      exact ⟨rfl, _, rfl, HTT.out _ _ rfl oR⟩
     ·intro x wx ox hN TT HTT; unfold StepTo; simp only [putAll, Act.put, zA, zB, zC, eI (hN.1 rfl)]; clear hN
      go_wp2_with fail
      exact ⟨rfl, _, rfl, HTT.out _ _ rfl oR⟩
     ·intro x wx ox hN TT HTT; unfold StepTo; simp only [putAll, Act.put, zA, zB, zC, eI (hN.1 rfl)]; clear hN; obtain ⟨m1, m2, m3⟩ := HX2.out wx ox
      go_wp2_with fail
      exact ⟨rfl, _, rfl, HTT.out _ _ rfl oR⟩
     ·intro x wx ox hN TT HTT; unfold StepTo; simp only [putAll, Act.put, zA, zB, zC, eI (hN.1 rfl)]; clear hN
      go_wp2_with fail
      exact ⟨rfl, _, rfl, HTT.out _ _ rfl oR⟩
     ·intro x wx ox hN TT HTT; unfold StepTo; simp only [putAll, Act.put, zA, zB, zC]; clear hN
      go_wp2_with fail
      exact ⟨rfl, _, rfl, HTT.out _ _ rfl oR⟩
     ·intro x wx ox hN TT HTT; unfold StepTo; simp only [putAll, Act.put, zA, zB, zC, eI (hN.1 rfl)]; clear hN; obtain ⟨m1, m2, m3⟩ := HX2.out wx ox
      go_wp2_with fail
      exact ⟨rfl, _, rfl, HTT.out _ _ rfl oR⟩
     ·intro x wx ox hN TT HTT; unfold StepTo; simp only [putAll, Act.put, zA, zB, zC]; clear hN
      go_wp2_with fail
      exact ⟨rfl, _, rfl, HTT.out _ _ rfl oR⟩
     ·intro x wx ox hN TT HTT; unfold StepTo; simp only [putAll, Act.put, zA, zB, zC, eI (hN.1 rfl), eI (hN.2.1 rfl)]; clear hN
      go_wp2_with fail
      exact ⟨rfl, _, rfl, HTT.out _ _ rfl oR⟩
     ·intro x wx ox hN TT HTT; unfold StepTo; simp only [putAll, Act.put, zA, zB, zC, eI (hN.1 rfl)]; clear hN
      go_wp2_with fail
      exact ⟨rfl, _, rfl, HTT.out _ _ rfl oR⟩
     ·intro x wx ox hN TT HTT; unfold StepTo; simp only [putAll, Act.put, zA, zB, zC, eI (hN.1 rfl)]; clear hN; obtain ⟨m1, m2, m3⟩ := HX2.out wx ox
      go_wp2_with fail
      exact ⟨rfl, _, rfl, HTT.out _ _ rfl oR⟩
     ·intro x wx ox hN TT HTT; unfold StepTo; simp only [putAll, Act.put, zA, zB, zC, eI (hN.1 rfl)]; clear hN; have ht := HREC2.out wx ox; have HT := hid ht; clear ht
      go_wp2_with fail
      refine HT.out.mono ?_
      rintro e w6 ⟨rfl, o6⟩; have O6 := hid o6; clear o6
      go_wp2_with fail
      exact ⟨rfl, _, rfl, HTT.out _ _ rfl (O6.out)⟩
     ·intro x wx ox hN TT HTT; unfold StepTo; simp only [putAll, Act.put, zA, zB, zC, eI (hN.1 rfl), eI (hN.2.1 rfl)]; clear hN
      go_wp2_with fail
      exact ⟨rfl, _, rfl, HTT.out _ _ rfl oR⟩
     ·intro x wx ox hN TT HTT; unfold StepTo; simp only [putAll, Act.put, zA, zB, zC, eI (hN.1 rfl), eI (hN.2.1 rfl)]; clear hN
      go_wp2_with fail
      exact ⟨rfl, _, rfl, HTT.out _ _ rfl oR⟩
     intro xz wxz oxz hN; simp only [putAll, Act.put, zA, zB, zC, eI hN.1, eI hN.2.1, eI hN.2.2.1, eI hN.2.2.2.1, eI hN.2.2.2.2.1, eI hN.2.2.2.2.2.1, eI hN.2.2.2.2.2.2.1, eI hN.2.2.2.2.2.2.2.1, eI hN.2.2.2.2.2.2.2.2.1, eI hN.2.2.2.2.2.2.2.2.2.1, eI hN.2.2.2.2.2.2.2.2.2.2.1, eI hN.2.2.2.2.2.2.2.2.2.2.2.1, eI hN.2.2.2.2.2.2.2.2.2.2.2.2.1, eI hN.2.2.2.2.2.2.2.2.2.2.2.2.2.1, eI hN.2.2.2.2.2.2.2.2.2.2.2.2.2.2.1, eI hN.2.2.2.2.2.2.2.2.2.2.2.2.2.2.2.1, eI hN.2.2.2.2.2.2.2.2.2.2.2.2.2.2.2.2.1]; clear hN; have OY := hid (HP.out.trans ((Only.refl _ wr).drew.trans oxz)); clear oxz
     go_wp2_with fail
     go_roundw
     case rel => exact ⟨j + 1, by simp, by omega, by rw [HQ'.out]; simp only [← cat_list], OY⟩
     case measure => simp [intOf]; omega
    ·have t4 : decide ((j : Int) < (LD : Int)) = false := decide_eq_false (by omega); have hjn : j = LD := by omega
     subst hjn; have hR := HR1.out; obtain ⟨Q, hQ⟩ := eX (hd ++ flB dirB ds j); rw [hQ] at hal2 hR ⊢
     by_cases hs0 : sub = []
     ·have hn0 : ¬ 0 < LS := by have := HLS.out; rw [hs0] at this; simp at this; omega
      have t5 : decide ((LS : Int) > 0) = false := decide_eq_false (by omega); rw [if_pos hs0] at hR; have HR2 := hid hR; clear hR hQ hle hl1 hs0 c0 c1 c2 c3 c4
      go_wp2_with fail
      clear c5 c6
      go_ret
      rw [← HR2.out, ren_nil, List.append_nil]; exact ⟨rfl, HOB.out.trans HP.out⟩
     ·have hn0 : 0 < LS := by have := HLS.out; have := List.length_pos_iff.2 hs0; omega
      have t5 : decide ((LS : Int) > 0) = true := decide_eq_true (by omega); rw [if_neg hs0] at hR hl1; have hsl : (ren (setI sub)).length ≤ 1000000000000 := by omega
      have HS := hid (HSA.out (hsub hs0) hsl wr (HOB.out.trans HP.out)); have HR2 := hid hR
      generalize ren (setI sub) = rs at *
      clear hR hQ hle hl1 hs0 c0 c1 c2 c3 c4
      go_wp2_with fail
      refine HS.out.mono ?_
      rintro e w6 ⟨rfl, o6⟩; have HO6 := hid ((HOB.out.trans HP.out).trans o6); clear c5 c6 o6
      go_wp2_with fail
      go_ret
      rw [← HR2.out]; simp only [← cat_list]; exact ⟨rfl, HO6.out⟩
  ·clear hnm hal0 hsub0 hon0; have u1 : ((k : Int) == 1) = true := by simp; omega
   have hhd : ren (headI k al nm on_ gs) = al ++ [58, 32] ++ (nm ++ ren (argsI gs)) := by unfold headI; rw [if_pos hk, if_neg hal, ren_app, ren_cons, ren_cons, ren_cons, ren_cons]; simp [ren, It.src, nmI, sgI]
   have hR := HR.out; have hl0 := HL0.out; rw [hhd] at hR hl0; obtain ⟨hd, hhd2⟩ : ∃ h : List UInt8, al ++ [58, 32] ++ (nm ++ ren (argsI gs)) = h := ⟨_, rfl⟩; rw [hhd2] at hR hl0; have hl1 := hl0; rw [← hhd2] at hl1; simp only [List.length_append, List.length_cons, List.length_nil] at hl1; have HHD := hid hhd2; have HR1 := hid hR; have HL1 := hid hl0; have hgl : (ren (argsI gs)).length ≤ 1000000000000 := by omega
   have hnl : nm.length ≤ 1000000000000 := by omega
   have hall : al.length ≤ 1000000000000 := by omega
   have hga := HGA.out hgs hgl; have HREC := hid (fun (wx : World) (ox : Only (fun _ => False) wb.drew wx) => hga wx (HOB.out.trans ((Only.refl _ wb).drew.trans ox))); have HX := hid (fun (wx : World) (ox : Only (fun _ => False) wb.drew wx) => have o := (Only.refl _ wb).drew.trans ox; And.intro (keepc o c2) (keepc o c4))
   generalize ren (argsI gs) = ga at *
   have z1 : (al == []) = false := by simpa using hal
   have z2 : (al != []) = true := by simpa using hal
   have HAL := hid hal; have HK := hid hk; clear hga hhd hhd2 hR hl0 hl1 hgs hk hal
   go_enter Tryz.func28, Tryz.ntmps28
   go_upto_region 1 with (fail)
   rw [HWB.out, HBA.out]
   go_upto_region 9 with (fail)
   clear c0 c1 c2 c3 c4 c5 c6; refine wp_region_steps 8 (by kernel_rfl) rfl (by kernel_rfl) [some 23, some 24, some 25, some 26, some 27, some 28, some 29, some 30] rfl rfl (fun _ => False) [(fun v _ => v = (.string (⟨al.toArray⟩ ++ ⟨#[58, 32]⟩))), (fun v _ => v = (.pointer (some ⟨bA, 2, none⟩))), (fun v _ => v = (.string ⟨nm.toArray⟩)), (fun v _ => v = (.pointer (some ⟨bA, 4, none⟩))), (fun v _ => v = (.slice ag LG cg)), (fun v _ => v = (.string ⟨ga.toArray⟩)), (fun v _ => v = (.string (⟨nm.toArray⟩ ++ ⟨ga.toArray⟩))), (fun v _ => v = (.string (⟨al.toArray⟩ ++ ⟨#[58, 32]⟩ ++ (⟨nm.toArray⟩ ++ ⟨ga.toArray⟩))))] rfl ⟨?_, ?_, ?_, ?_, ?_, ?_, ?_, ?_, trivial⟩ _ rfl ⟨?_, ?_, ?_, ?_, ?_, ?_, ?_, ?_, trivial⟩ ?_
   iterate 8 exact Stable.is _ _
   ·intro x wx ox hN TT HTT; unfold StepTo; simp only [putAll, Act.put, zA, zB, zC]; clear hN
    go_wp2_with fail
    exact ⟨rfl, _, rfl, HTT.out _ _ rfl oR⟩
   ·intro x wx ox hN TT HTT; unfold StepTo; simp only [putAll, Act.put, zA, zB, zC]; clear hN
    go_wp2_with fail
    exact ⟨rfl, _, rfl, HTT.out _ _ rfl oR⟩
   ·intro x wx ox hN TT HTT; unfold StepTo; simp only [putAll, Act.put, zA, zB, zC, eI (hN.1 rfl)]; clear hN; obtain ⟨m1, m2⟩ := HX.out wx ox
    go_wp2_with fail
    exact ⟨rfl, _, rfl, HTT.out _ _ rfl oR⟩
   ·intro x wx ox hN TT HTT; unfold StepTo; simp only [putAll, Act.put, zA, zB, zC]; clear hN
    go_wp2_with fail
    exact ⟨rfl, _, rfl, HTT.out _ _ rfl oR⟩
   ·intro x wx ox hN TT HTT; unfold StepTo; simp only [putAll, Act.put, zA, zB, zC, eI (hN.1 rfl)]; clear hN; obtain ⟨m1, m2⟩ := HX.out wx ox
    go_wp2_with fail
    exact ⟨rfl, _, rfl, HTT.out _ _ rfl oR⟩
   ·intro x wx ox hN TT HTT; unfold StepTo; simp only [putAll, Act.put, zA, zB, zC, eI (hN.1 rfl)]; clear hN; have ht := HREC.out wx ox; have HT := hid ht; clear ht
    go_wp2_with fail
    refine HT.out.mono ?_
    rintro e w6 ⟨rfl, o6⟩; have O6 := hid o6; clear o6
    go_wp2_with fail
    exact ⟨rfl, _, rfl, HTT.out _ _ rfl (O6.out)⟩
   ·intro x wx ox hN TT HTT; unfold StepTo; simp only [putAll, Act.put, zA, zB, zC, eI (hN.1 rfl), eI (hN.2.1 rfl)]; clear hN
    go_wp2_with fail
    exact ⟨rfl, _, rfl, HTT.out _ _ rfl oR⟩
   ·intro x wx ox hN TT HTT; unfold StepTo; simp only [putAll, Act.put, zA, zB, zC, eI (hN.1 rfl), eI (hN.2.1 rfl)]; clear hN
    go_wp2_with fail
    exact ⟨rfl, _, rfl, HTT.out _ _ rfl oR⟩
   intro xz wxz oxz hN; simp only [putAll, Act.put, zA, zB, zC, eI hN.1, eI hN.2.1, eI hN.2.2.1, eI hN.2.2.2.1, eI hN.2.2.2.2.1, eI hN.2.2.2.2.2.1, eI hN.2.2.2.2.2.2.1, eI hN.2.2.2.2.2.2.2.1]; clear hN; have OZ := hid ((Only.refl _ wb).drew.trans oxz); clear oxz; obtain ⟨c0, c1, c2, c3, c4, c5, c6⟩ := HC.out; have c0 := keepc OZ.out c0; have c1 := keepc OZ.out c1; have c2 := keepc OZ.out c2; have c3 := keepc OZ.out c3; have c4 := keepc OZ.out c4; have c5 := keepc OZ.out c5; have c6 := keepc OZ.out c6
   go_wp2_with fail
   clear c0 c1 c2 c3 c4 c5 c6
   go_loopw [3, 4] (fun x y wr => ∃ i : Nat, y = .int .i64 (i : Int) ∧ i ≤ LD ∧ x = .string ⟨(hd ++ flB dirB ds i).toArray⟩ ∧ Hid (Only (fun _ => False) wb wr)) (fun _ y _ => LD - (intOf y).toNat)
   case atStart => exact ⟨0, rfl, by omega, by rw [show flB dirB ds 0 = [] from rfl, List.append_nil, ← HHD.out]; simp only [← cat_list], OZ⟩
   case round =>
    obtain ⟨j, rfl, hj, rfl, HP⟩ := hrel; obtain ⟨c0, c1, c2, c3, c4, c5, c6⟩ := HC.out; have c5 := keepc HP.out c5; have c6 := keepc HP.out c6; have hle := flB_le dirB ds j; rw [HLD.out] at hle; have hl1 := HL1.out; have hal2 : (hd ++ flB dirB ds j).length ≤ 1000000000000 := by rw [List.length_append]; omega
    by_cases hltj : j < LD
    ·have t4 : decide ((j : Int) < (LD : Int)) = true := decide_eq_true (by omega); have hj0 : (0 : Int) ≤ (j : Int) := by omega
     have hj1 : (j : Int) < (LD : Int) := by omega
     have hjl : j < ds.length := by rw [HLD.out]; exact hltj
     have hnx := flB_next dirB ds j hjl; have hle2 := flB_le dirB ds (j + 1); rw [HLD.out, hnx] at hle2; rw [List.length_append] at hle2; have hdb : (dirB ds[j]).length = 2 + ds[j].name.length + (ren (argsI ds[j].args)).length := by unfold dirB; simp only [List.length_append, List.length_cons, List.length_nil]
     obtain ⟨gd, od, ys, rfl, -, p1, p2⟩ := HND.out j hjl; obtain ⟨av, rfl, ha⟩ := dir_cells p2; have hdg := (HDG.out ds[j] (List.getElem_mem hjl)).2; have hgl2 : (ren (argsI ds[j].args)).length ≤ 1000000000000 := by omega
     have hdn : ds[j].name.length ≤ 1000000000000 := by omega
     have hrec := fun (wx : World) (ox : Only (fun _ => False) w wx) => prA_any ds[j].args (fun a ha => goodA_well (hdg a ha)) G wx av (CellAt.only ox (fun _ _ h => h) _ _ ha) hgl2
     obtain ⟨ax, cx, rfl, -, -, -⟩ := rows_at ha; obtain ⟨e0, e1⟩ := cells2_of p1; have hnx : flB dirB ds (j + 1) = flB dirB ds j ++ ([32, 64] ++ ds[j].name ++ ren (argsI ds[j].args)) := hnx
     generalize ren (argsI ds[j].args) = rg at *
     generalize ds[j].args.length = LX at *
     generalize ds[j].name = dn at *
     obtain ⟨Q, hQ⟩ := eX (hd ++ flB dirB ds j); have hQ' : hd ++ flB dirB ds (j + 1) = Q ++ ([32, 64] ++ dn ++ rg) := by rw [hnx, ← hQ]; simp only [List.append_assoc]
     rw [hQ] at hal2 ⊢; have HQ' := hid hQ'; have oww : Only (fun _ => False) w wr := HOB.out.trans HP.out; have HX2 := hid (fun (wx : World) (ox : Only (fun _ => False) wr.drew wx) => have o := (Only.refl _ wr).drew.trans ox; have ow := oww.trans o; And.intro (keepc o c5) (And.intro (keepc ow e0) (keepc ow e1))); have HREC2 := hid (fun (wx : World) (ox : Only (fun _ => False) wr.drew wx) => hrec wx (oww.trans ((Only.refl _ wr).drew.trans ox))); clear hdb hQ hQ' hnx hle hle2 hl1 p1 p2 ha hrec e0 e1 oww c0 c1 c2 c3 c4 c6 hdg
     go_upto_region 15 with (fail)
     clear c5; refine wp_region_steps 17 (by kernel_rfl) rfl (by kernel_rfl) [some 43, some 44, some 45, some 46, some 47, some 48, some 49, some 50, some 51, some 52, some 53, some 54, some 55, some 56, some 57, some 58, some 59] rfl rfl (fun _ => False) [(fun v _ => v = (.string ⟨Q.toArray⟩)), (fun v _ => v = (.pointer (some ⟨bA, 5, none⟩))), (fun v _ => v = (.slice (some ⟨gd, od, none⟩) LD cd)), (fun v _ => v = (.int .i64 (j : Int))), (fun v _ => v = (.pointer (some ⟨gd, od + j * 2, none⟩))), (fun v _ => v = (.pointer (some ⟨gd, od + j * 2, none⟩))), (fun v _ => v = (.string ⟨dn.toArray⟩)), (fun v _ => v = (.string (⟨#[32, 64]⟩ ++ ⟨dn.toArray⟩))), (fun v _ => v = (.pointer (some ⟨bA, 5, none⟩))), (fun v _ => v = (.slice (some ⟨gd, od, none⟩) LD cd)), (fun v _ => v = (.int .i64 (j : Int))), (fun v _ => v = (.pointer (some ⟨gd, od + j * 2, none⟩))), (fun v _ => v = (.pointer (some ⟨gd, od + j * 2 + 1, none⟩))), (fun v _ => v = (.slice ax LX cx)), (fun v _ => v = (.string ⟨rg.toArray⟩)), (fun v _ => v = (.string (⟨#[32, 64]⟩ ++ ⟨dn.toArray⟩ ++ ⟨rg.toArray⟩))), (fun v _ => v = (.string (⟨Q.toArray⟩ ++ (⟨#[32, 64]⟩ ++ ⟨dn.toArray⟩ ++ ⟨rg.toArray⟩))))] rfl ⟨?_, ?_, ?_, ?_, ?_, ?_, ?_, ?_, ?_, ?_, ?_, ?_, ?_, ?_, ?_, ?_, ?_, trivial⟩ _ rfl ⟨?_, ?_, ?_, ?_, ?_, ?_, ?_, ?_, ?_, ?_, ?_, ?_, ?_, ?_, ?_, ?_, ?_, trivial⟩ ?_
     iterate 17 exact Stable.is _ _
     ·intro x wx ox hN TT HTT; unfold StepTo; simp only [putAll, Act.put, zA, zB, zC]; clear hN
      go_wp2_with fail
      exact ⟨rfl, _, rfl, HTT.out _ _ rfl oR⟩
     ·intro x wx ox hN TT HTT; unfold StepTo; simp only [putAll, Act.put, zA, zB, zC]; clear hN
      go_wp2_with fail
      exact ⟨rfl, _, rfl, HTT.out _ _ rfl oR⟩
     ·intro x wx ox hN TT HTT; unfold StepTo; simp only [putAll, Act.put, zA, zB, zC, eI (hN.1 rfl)]; clear hN; obtain ⟨m1, m2, m3⟩ := HX2.out wx ox
      go_wp2_with fail
      exact ⟨rfl, _, rfl, HTT.out _ _ rfl oR⟩
     ·intro x wx ox hN TT HTT; unfold StepTo; simp only [putAll, Act.put, zA, zB, zC]; clear hN
      go_wp2_with fail
      exact ⟨rfl, _, rfl, HTT.out _ _ rfl oR⟩
     ·intro x wx ox hN TT HTT; unfold StepTo; simp only [putAll, Act.put, zA, zB, zC, eI (hN.1 rfl), eI (hN.2.1 rfl)]; clear hN
      go_wp2_with fail
      exact ⟨rfl, _, rfl, HTT.out _ _ rfl oR⟩
     ·intro x wx ox hN TT HTT; unfold StepTo; simp only [putAll, Act.put, zA, zB, zC, eI (hN.1 rfl)]; clear hN
      go_wp2_with fail
      exact ⟨rfl, _, rfl, HTT.out _ _ rfl oR⟩
     ·intro x wx ox hN TT HTT; unfold StepTo; simp only [putAll, Act.put, zA, zB, zC, eI (hN.1 rfl)]; clear hN; obtain ⟨m1, m2, m3⟩ := HX2.out wx ox
      go_wp2_with fail
      exact ⟨rfl, _, rfl, HTT.out _ _ rfl oR⟩
     ·intro x wx ox hN TT HTT; unfold StepTo; simp only [putAll, Act.put, zA, zB, zC, eI (hN.1 rfl)]; clear hN
      go_wp2_with fail
      exact ⟨rfl, _, rfl, HTT.out _ _ rfl oR⟩
     ·intro x wx ox hN TT HTT; unfold StepTo; simp only [putAll, Act.put, zA, zB, zC]; clear hN
      go_wp2_with fail
      exact ⟨rfl, _, rfl, HTT.out _ _ rfl oR⟩
     ·intro x wx ox hN TT HTT; unfold StepTo; simp only [putAll, Act.put, zA, zB, zC, eI (hN.1 rfl)]; clear hN; obtain ⟨m1, m2, m3⟩ := HX2.out wx ox
      go_wp2_with fail
      exact ⟨rfl, _, rfl, HTT.out _ _ rfl oR⟩
     ·intro x wx ox hN TT HTT; unfold StepTo; simp only [putAll, Act.put, zA, zB, zC]; clear hN
      go_wp2_with fail
      exact ⟨rfl, _, rfl, HTT.out _ _ rfl oR⟩
     ·intro x wx ox hN TT HTT; unfold StepTo; simp only [putAll, Act.put, zA, zB, zC, eI (hN.1 rfl), eI (hN.2.1 rfl)]; clear hN
      go_wp2_with fail
      exact ⟨rfl, _, rfl, HTT.out _ _ rfl oR⟩
     ·intro x wx ox hN TT HTT; unfold StepTo; simp only [putAll, Act.put, zA, zB, zC, eI (hN.1 rfl)]; clear hN
      go_wp2_with fail
      exact ⟨rfl, _, rfl, HTT.out _ _ rfl oR⟩
     ·intro x wx ox hN TT HTT; unfold StepTo; simp only [putAll, Act.put, zA, zB, zC, eI (hN.1 rfl)]; clear hN; obtain ⟨m1, m2, m3⟩ := HX2.out wx ox
      go_wp2_with fail
      exact ⟨rfl, _, rfl, HTT.out _ _ rfl oR⟩
     ·intro x wx ox hN TT HTT; unfold StepTo; simp only [putAll, Act.put, zA, zB, zC, eI (hN.1 rfl)]; clear hN; have ht := HREC2.out wx ox; have HT := hid ht; clear ht
      go_wp2_with fail
      refine HT.out.mono ?_
      rintro e w6 ⟨rfl, o6⟩; have O6 := hid o6; clear o6
      go_wp2_with fail
      exact ⟨rfl, _, rfl, HTT.out _ _ rfl (O6.out)⟩
     ·intro x wx ox hN TT HTT; unfold StepTo; simp only [putAll, Act.put, zA, zB, zC, eI (hN.1 rfl), eI (hN.2.1 rfl)]; clear hN
      go_wp2_with fail
      exact ⟨rfl, _, rfl, HTT.out _ _ rfl oR⟩
     ·intro x wx ox hN TT HTT; unfold StepTo; simp only [putAll, Act.put, zA, zB, zC, eI (hN.1 rfl), eI (hN.2.1 rfl)]; clear hN
      go_wp2_with fail
      exact ⟨rfl, _, rfl, HTT.out _ _ rfl oR⟩
     intro xz wxz oxz hN; simp only [putAll, Act.put, zA, zB, zC, eI hN.1, eI hN.2.1, eI hN.2.2.1, eI hN.2.2.2.1, eI hN.2.2.2.2.1, eI hN.2.2.2.2.2.1, eI hN.2.2.2.2.2.2.1, eI hN.2.2.2.2.2.2.2.1, eI hN.2.2.2.2.2.2.2.2.1, eI hN.2.2.2.2.2.2.2.2.2.1, eI hN.2.2.2.2.2.2.2.2.2.2.1, eI hN.2.2.2.2.2.2.2.2.2.2.2.1, eI hN.2.2.2.2.2.2.2.2.2.2.2.2.1, eI hN.2.2.2.2.2.2.2.2.2.2.2.2.2.1, eI hN.2.2.2.2.2.2.2.2.2.2.2.2.2.2.1, eI hN.2.2.2.2.2.2.2.2.2.2.2.2.2.2.2.1, eI hN.2.2.2.2.2.2.2.2.2.2.2.2.2.2.2.2.1]; clear hN; have OY := hid (HP.out.trans ((Only.refl _ wr).drew.trans oxz)); clear oxz
     go_wp2_with fail
     go_roundw
     case rel => exact ⟨j + 1, by simp, by omega, by rw [HQ'.out]; simp only [← cat_list], OY⟩
     case measure => simp [intOf]; omega
    ·have t4 : decide ((j : Int) < (LD : Int)) = false := decide_eq_false (by omega); have hjn : j = LD := by omega
     subst hjn; have hR := HR1.out; obtain ⟨Q, hQ⟩ := eX (hd ++ flB dirB ds j); rw [hQ] at hal2 hR ⊢
     by_cases hs0 : sub = []
     ·have hn0 : ¬ 0 < LS := by have := HLS.out; rw [hs0] at this; simp at this; omega
      have t5 : decide ((LS : Int) > 0) = false := decide_eq_false (by omega); rw [if_pos hs0] at hR; have HR2 := hid hR; clear hR hQ hle hl1 hs0 c0 c1 c2 c3 c4
      go_wp2_with fail
      clear c5 c6
      go_ret
      rw [← HR2.out, ren_nil, List.append_nil]; exact ⟨rfl, HOB.out.trans HP.out⟩
     ·have hn0 : 0 < LS := by have := HLS.out; have := List.length_pos_iff.2 hs0; omega
      have t5 : decide ((LS : Int) > 0) = true := decide_eq_true (by omega); rw [if_neg hs0] at hR hl1; have hsl : (ren (setI sub)).length ≤ 1000000000000 := by omega
      have HS := hid (HSA.out (hsub hs0) hsl wr (HOB.out.trans HP.out)); have HR2 := hid hR
      generalize ren (setI sub) = rs at *
      clear hR hQ hle hl1 hs0 c0 c1 c2 c3 c4
      go_wp2_with fail
      refine HS.out.mono ?_
      rintro e w6 ⟨rfl, o6⟩; have HO6 := hid ((HOB.out.trans HP.out).trans o6); clear c5 c6 o6
      go_wp2_with fail
      go_ret
      rw [← HR2.out]; simp only [← cat_list]; exact ⟨rfl, HO6.out⟩
 ·clear hal0 hon0 hnm hno; have u1 : ((k : Int) == 1) = false := by simp; omega
  have u2 : ((k : Int) == 2) = true := by simp; omega
  have hhd : ren (headI k al nm on_ gs) = [46, 46, 46] ++ nm := by unfold headI; rw [if_neg (by omega), if_pos hk]; simp [ren, It.src, nmI, doI]
  have hR := HR.out; have hl0 := HL0.out; rw [hhd] at hR hl0; obtain ⟨hd, hhd2⟩ : ∃ h : List UInt8, [46, 46, 46] ++ nm = h := ⟨_, rfl⟩; rw [hhd2] at hR hl0; have hl1 := hl0; rw [← hhd2] at hl1; simp only [List.length_append, List.length_cons, List.length_nil] at hl1; have HHD := hid hhd2; have HR1 := hid hR; have HL1 := hid hl0; have hnl : nm.length ≤ 1000000000000 := by omega
  have HK := hid hk; have OZ := hid (Only.refl (fun _ => False) wb); clear hhd hhd2 hR hl0 hl1 hk
  go_enter Tryz.func28, Tryz.ntmps28
  go_upto_region 1 with (fail)
  rw [HWB.out, HBA.out]
  go_wp2_with fail
  clear c0 c1 c2 c3 c4 c5 c6
  go_loopw [3, 4] (fun x y wr => ∃ i : Nat, y = .int .i64 (i : Int) ∧ i ≤ LD ∧ x = .string ⟨(hd ++ flB dirB ds i).toArray⟩ ∧ Hid (Only (fun _ => False) wb wr)) (fun _ y _ => LD - (intOf y).toNat)
  case atStart => exact ⟨0, rfl, by omega, by rw [show flB dirB ds 0 = [] from rfl, List.append_nil, ← HHD.out]; simp only [← cat_list], OZ⟩
  case round =>
   obtain ⟨j, rfl, hj, rfl, HP⟩ := hrel; obtain ⟨c0, c1, c2, c3, c4, c5, c6⟩ := HC.out; have c5 := keepc HP.out c5; have c6 := keepc HP.out c6; have hle := flB_le dirB ds j; rw [HLD.out] at hle; have hl1 := HL1.out; have hal2 : (hd ++ flB dirB ds j).length ≤ 1000000000000 := by rw [List.length_append]; omega
   by_cases hltj : j < LD
   ·have t4 : decide ((j : Int) < (LD : Int)) = true := decide_eq_true (by omega); have hj0 : (0 : Int) ≤ (j : Int) := by omega
    have hj1 : (j : Int) < (LD : Int) := by omega
    have hjl : j < ds.length := by rw [HLD.out]; exact hltj
    have hnx := flB_next dirB ds j hjl; have hle2 := flB_le dirB ds (j + 1); rw [HLD.out, hnx] at hle2; rw [List.length_append] at hle2; have hdb : (dirB ds[j]).length = 2 + ds[j].name.length + (ren (argsI ds[j].args)).length := by unfold dirB; simp only [List.length_append, List.length_cons, List.length_nil]
    obtain ⟨gd, od, ys, rfl, -, p1, p2⟩ := HND.out j hjl; obtain ⟨av, rfl, ha⟩ := dir_cells p2; have hdg := (HDG.out ds[j] (List.getElem_mem hjl)).2; have hgl2 : (ren (argsI ds[j].args)).length ≤ 1000000000000 := by omega
    have hdn : ds[j].name.length ≤ 1000000000000 := by omega
    have hrec := fun (wx : World) (ox : Only (fun _ => False) w wx) => prA_any ds[j].args (fun a ha => goodA_well (hdg a ha)) G wx av (CellAt.only ox (fun _ _ h => h) _ _ ha) hgl2
    obtain ⟨ax, cx, rfl, -, -, -⟩ := rows_at ha; obtain ⟨e0, e1⟩ := cells2_of p1; have hnx : flB dirB ds (j + 1) = flB dirB ds j ++ ([32, 64] ++ ds[j].name ++ ren (argsI ds[j].args)) := hnx
    generalize ren (argsI ds[j].args) = rg at *
    generalize ds[j].args.length = LX at *
    generalize ds[j].name = dn at *
    obtain ⟨Q, hQ⟩ := eX (hd ++ flB dirB ds j); have hQ' : hd ++ flB dirB ds (j + 1) = Q ++ ([32, 64] ++ dn ++ rg) := by rw [hnx, ← hQ]; simp only [List.append_assoc]
    rw [hQ] at hal2 ⊢; have HQ' := hid hQ'; have oww : Only (fun _ => False) w wr := HOB.out.trans HP.out; have HX2 := hid (fun (wx : World) (ox : Only (fun _ => False) wr.drew wx) => have o := (Only.refl _ wr).drew.trans ox; have ow := oww.trans o; And.intro (keepc o c5) (And.intro (keepc ow e0) (keepc ow e1))); have HREC2 := hid (fun (wx : World) (ox : Only (fun _ => False) wr.drew wx) => hrec wx (oww.trans ((Only.refl _ wr).drew.trans ox))); clear hdb hQ hQ' hnx hle hle2 hl1 p1 p2 ha hrec e0 e1 oww c0 c1 c2 c3 c4 c6 hdg
    go_upto_region 15 with (fail)
    clear c5; refine wp_region_steps 17 (by kernel_rfl) rfl (by kernel_rfl) [some 43, some 44, some 45, some 46, some 47, some 48, some 49, some 50, some 51, some 52, some 53, some 54, some 55, some 56, some 57, some 58, some 59] rfl rfl (fun _ => False) [(fun v _ => v = (.string ⟨Q.toArray⟩)), (fun v _ => v = (.pointer (some ⟨bA, 5, none⟩))), (fun v _ => v = (.slice (some ⟨gd, od, none⟩) LD cd)), (fun v _ => v = (.int .i64 (j : Int))), (fun v _ => v = (.pointer (some ⟨gd, od + j * 2, none⟩))), (fun v _ => v = (.pointer (some ⟨gd, od + j * 2, none⟩))), (fun v _ => v = (.string ⟨dn.toArray⟩)), (fun v _ => v = (.string (⟨#[32, 64]⟩ ++ ⟨dn.toArray⟩))), (fun v _ => v = (.pointer (some ⟨bA, 5, none⟩))), (fun v _ => v = (.slice (some ⟨gd, od, none⟩) LD cd)), (fun v _ => v = (.int .i64 (j : Int))), (fun v _ => v = (.pointer (some ⟨gd, od + j * 2, none⟩))), (fun v _ => v = (.pointer (some ⟨gd, od + j * 2 + 1, none⟩))), (fun v _ => v = (.slice ax LX cx)), (fun v _ => v = (.string ⟨rg.toArray⟩)), (fun v _ => v = (.string (⟨#[32, 64]⟩ ++ ⟨dn.toArray⟩ ++ ⟨rg.toArray⟩))), (fun v _ => v = (.string (⟨Q.toArray⟩ ++ (⟨#[32, 64]⟩ ++ ⟨dn.toArray⟩ ++ ⟨rg.toArray⟩))))] rfl ⟨?_, ?_, ?_, ?_, ?_, ?_, ?_, ?_, ?_, ?_, ?_, ?_, ?_, ?_, ?_, ?_, ?_, trivial⟩ _ rfl ⟨?_, ?_, ?_, ?_, ?_, ?_, ?_, ?_, ?_, ?_, ?_, ?_, ?_, ?_, ?_, ?_, ?_, trivial⟩ ?_
    iterate 17 exact Stable.is _ _
    ·intro x wx ox hN TT HTT; unfold StepTo; simp only [putAll, Act.put, zA, zB, zC]; clear hN
     go_wp2_with fail
     exact ⟨rfl, _, rfl, HTT.out _ _ rfl oR⟩
    ·intro x wx ox hN TT HTT; unfold StepTo; simp only [putAll, Act.put, zA, zB, zC]; clear hN
     go_wp2_with fail
     exact ⟨rfl, _, rfl, HTT.out _ _ rfl oR⟩
    ·intro x wx ox hN TT HTT; unfold StepTo; simp only [putAll, Act.put, zA, zB, zC, eI (hN.1 rfl)]; clear hN; obtain ⟨m1, m2, m3⟩ := HX2.out wx ox
     go_wp2_with fail
     exact ⟨rfl, _, rfl, HTT.out _ _ rfl oR⟩
    ·intro x wx ox hN TT HTT; unfold StepTo; simp only [putAll, Act.put, zA, zB, zC]; clear hN
     go_wp2_with fail
     exact ⟨rfl, _, rfl, HTT.out _ _ rfl oR⟩
    ·intro x wx ox hN TT HTT; unfold StepTo; simp only [putAll, Act.put, zA, zB, zC, eI (hN.1 rfl), eI (hN.2.1 rfl)]; clear hN
     go_wp2_with fail
     exact ⟨rfl, _, rfl, HTT.out _ _ rfl oR⟩
    ·intro x wx ox hN TT HTT; unfold StepTo; simp only [putAll, Act.put, zA, zB, zC, eI (hN.1 rfl)]; clear hN
     go_wp2_with fail
     exact ⟨rfl, _, rfl, HTT.out _ _ rfl oR⟩
    ·intro x wx ox hN TT HTT; unfold StepTo; simp only [putAll, Act.put, zA, zB, zC, eI (hN.1 rfl)]; clear hN; obtain ⟨m1, m2, m3⟩ := HX2.out wx ox
     go_wp2_with fail
     exact ⟨rfl, _, rfl, HTT.out _ _ rfl oR⟩
    ·intro x wx ox hN TT HTT; unfold StepTo; simp only [putAll, Act.put, zA, zB, zC, eI (hN.1 rfl)]; clear hN
     go_wp2_with fail
     exact ⟨rfl, _, rfl, HTT.out _ _ rfl oR⟩
    ·intro x wx ox hN TT HTT; unfold StepTo; simp only [putAll, Act.put, zA, zB, zC]; clear hN
     go_wp2_with fail
     exact ⟨rfl, _, rfl, HTT.out _ _ rfl oR⟩
    ·intro x wx ox hN TT HTT; unfold StepTo; simp only [putAll, Act.put, zA, zB, zC, eI (hN.1 rfl)]; clear hN; obtain ⟨m1, m2, m3⟩ := HX2.out wx ox
     go_wp2_with fail
     exact ⟨rfl, _, rfl, HTT.out _ _ rfl oR⟩
    ·intro x wx ox hN TT HTT; unfold StepTo; simp only [putAll, Act.put, zA, zB, zC]; clear hN
     go_wp2_with fail
     exact ⟨rfl, _, rfl, HTT.out _ _ rfl oR⟩
    ·intro x wx ox hN TT HTT; unfold StepTo; simp only [putAll, Act.put, zA, zB, zC, eI (hN.1 rfl), eI (hN.2.1 rfl)]; clear hN
     go_wp2_with fail
     exact ⟨rfl, _, rfl, HTT.out _ _ rfl oR⟩
    ·intro x wx ox hN TT HTT; unfold StepTo; simp only [putAll, Act.put, zA, zB, zC, eI (hN.1 rfl)]; clear hN
     go_wp2_with fail
     exact ⟨rfl, _, rfl, HTT.out _ _ rfl oR⟩
    ·intro x wx ox hN TT HTT; unfold StepTo; simp only [putAll, Act.put, zA, zB, zC, eI (hN.1 rfl)]; clear hN; obtain ⟨m1, m2, m3⟩ := HX2.out wx ox
     go_wp2_with fail
     exact ⟨rfl, _, rfl, HTT.out _ _ rfl oR⟩
    ·intro x wx ox hN TT HTT; unfold StepTo; simp only [putAll, Act.put, zA, zB, zC, eI (hN.1 rfl)]; clear hN; have ht := HREC2.out wx ox; have HT := hid ht; clear ht
     go_wp2_with fail
     refine HT.out.mono ?_
     rintro e w6 ⟨rfl, o6⟩; have O6 := hid o6; clear o6
     go_wp2_with fail
     exact ⟨rfl, _, rfl, HTT.out _ _ rfl (O6.out)⟩
    ·intro x wx ox hN TT HTT; unfold StepTo; simp only [putAll, Act.put, zA, zB, zC, eI (hN.1 rfl), eI (hN.2.1 rfl)]; clear hN
     go_wp2_with fail
     exact ⟨rfl, _, rfl, HTT.out _ _ rfl oR⟩
    ·intro x wx ox hN TT HTT; unfold StepTo; simp only [putAll, Act.put, zA, zB, zC, eI (hN.1 rfl), eI (hN.2.1 rfl)]; clear hN
     go_wp2_with fail
     exact ⟨rfl, _, rfl, HTT.out _ _ rfl oR⟩
    intro xz wxz oxz hN; simp only [putAll, Act.put, zA, zB, zC, eI hN.1, eI hN.2.1, eI hN.2.2.1, eI hN.2.2.2.1, eI hN.2.2.2.2.1, eI hN.2.2.2.2.2.1, eI hN.2.2.2.2.2.2.1, eI hN.2.2.2.2.2.2.2.1, eI hN.2.2.2.2.2.2.2.2.1, eI hN.2.2.2.2.2.2.2.2.2.1, eI hN.2.2.2.2.2.2.2.2.2.2.1, eI hN.2.2.2.2.2.2.2.2.2.2.2.1, eI hN.2.2.2.2.2.2.2.2.2.2.2.2.1, eI hN.2.2.2.2.2.2.2.2.2.2.2.2.2.1, eI hN.2.2.2.2.2.2.2.2.2.2.2.2.2.2.1, eI hN.2.2.2.2.2.2.2.2.2.2.2.2.2.2.2.1, eI hN.2.2.2.2.2.2.2.2.2.2.2.2.2.2.2.2.1]; clear hN; have OY := hid (HP.out.trans ((Only.refl _ wr).drew.trans oxz)); clear oxz
    go_wp2_with fail
    go_roundw
    case rel => exact ⟨j + 1, by simp, by omega, by rw [HQ'.out]; simp only [← cat_list], OY⟩
    case measure => simp [intOf]; omega
   ·have t4 : decide ((j : Int) < (LD : Int)) = false := decide_eq_false (by omega); have hjn : j = LD := by omega
    subst hjn; have hR := HR1.out; obtain ⟨Q, hQ⟩ := eX (hd ++ flB dirB ds j); rw [hQ] at hal2 hR ⊢; have hn0 : ¬ 0 < LS := by have := HLS.out; rw [hs0] at this; simp at this; omega
    have t5 : decide ((LS : Int) > 0) = false := decide_eq_false (by omega); rw [if_pos hs0] at hR; have HR2 := hid hR; clear hR hQ hle hl1 hs0 c0 c1 c2 c3 c4
    go_wp2_with fail
    clear c5 c6
    go_ret
    rw [← HR2.out, ren_nil, List.append_nil]; exact ⟨rfl, HOB.out.trans HP.out⟩
 ·have hs0 : sub ≠ [] := goodS_ne hsub0; have hsub : sub ≠ [] → GoodS d sub := fun _ => hsub0
  clear hal0 hnm0 hon0 hgs0
  by_cases hon : on_ = []
  ·skip; have u1 : ((k : Int) == 1) = false := by simp; omega
   have u2 : ((k : Int) == 2) = false := by simp; omega
   have hhd : ren (headI k al nm on_ gs) = [46, 46, 46] := by unfold headI; rw [if_neg (by omega), if_neg (by omega), if_pos hon]; simp [ren, It.src, nmI, doI]
   have hR := HR.out; have hl0 := HL0.out; rw [hhd] at hR hl0; obtain ⟨hd, hhd2⟩ : ∃ h : List UInt8, [46, 46, 46] = h := ⟨_, rfl⟩; rw [hhd2] at hR hl0; have hl1 := hl0; rw [← hhd2] at hl1; simp only [List.length_append, List.length_cons, List.length_nil] at hl1; have HHD := hid hhd2; have HR1 := hid hR; have HL1 := hid hl0; subst hon; have HK := hid hk; have OZ := hid (Only.refl (fun _ => False) wb); clear hhd hhd2 hR hl0 hl1 hk
   go_enter Tryz.func28, Tryz.ntmps28
   go_upto_region 1 with (fail)
   rw [HWB.out, HBA.out]
   go_wp2_with fail
   clear c0 c1 c2 c3 c4 c5 c6
   go_loopw [3, 4] (fun x y wr => ∃ i : Nat, y = .int .i64 (i : Int) ∧ i ≤ LD ∧ x = .string ⟨(hd ++ flB dirB ds i).toArray⟩ ∧ Hid (Only (fun _ => False) wb wr)) (fun _ y _ => LD - (intOf y).toNat)
   case atStart => exact ⟨0, rfl, by omega, by rw [show flB dirB ds 0 = [] from rfl, List.append_nil, ← HHD.out], OZ⟩
   case round =>
    obtain ⟨j, rfl, hj, rfl, HP⟩ := hrel; obtain ⟨c0, c1, c2, c3, c4, c5, c6⟩ := HC.out; have c5 := keepc HP.out c5; have c6 := keepc HP.out c6; have hle := flB_le dirB ds j; rw [HLD.out] at hle; have hl1 := HL1.out; have hal2 : (hd ++ flB dirB ds j).length ≤ 1000000000000 := by rw [List.length_append]; omega
    by_cases hltj : j < LD
    ·have t4 : decide ((j : Int) < (LD : Int)) = true := decide_eq_true (by omega); have hj0 : (0 : Int) ≤ (j : Int) := by omega
     have hj1 : (j : Int) < (LD : Int) := by omega
     have hjl : j < ds.length := by rw [HLD.out]; exact hltj
     have hnx := flB_next dirB ds j hjl; have hle2 := flB_le dirB ds (j + 1); rw [HLD.out, hnx] at hle2; rw [List.length_append] at hle2; have hdb : (dirB ds[j]).length = 2 + ds[j].name.length + (ren (argsI ds[j].args)).length := by unfold dirB; simp only [List.length_append, List.length_cons, List.length_nil]
     obtain ⟨gd, od, ys, rfl, -, p1, p2⟩ := HND.out j hjl; obtain ⟨av, rfl, ha⟩ := dir_cells p2; have hdg := (HDG.out ds[j] (List.getElem_mem hjl)).2; have hgl2 : (ren (argsI ds[j].args)).length ≤ 1000000000000 := by omega
     have hdn : ds[j].name.length ≤ 1000000000000 := by omega
     have hrec := fun (wx : World) (ox : Only (fun _ => False) w wx) => prA_any ds[j].args (fun a ha => goodA_well (hdg a ha)) G wx av (CellAt.only ox (fun _ _ h => h) _ _ ha) hgl2
     obtain ⟨ax, cx, rfl, -, -, -⟩ := rows_at ha; obtain ⟨e0, e1⟩ := cells2_of p1; have hnx : flB dirB ds (j + 1) = flB dirB ds j ++ ([32, 64] ++ ds[j].name ++ ren (argsI ds[j].args)) := hnx
     generalize ren (argsI ds[j].args) = rg at *
     generalize ds[j].args.length = LX at *
     generalize ds[j].name = dn at *
     obtain ⟨Q, hQ⟩ := eX (hd ++ flB dirB ds j); have hQ' : hd ++ flB dirB ds (j + 1) = Q ++ ([32, 64] ++ dn ++ rg) := by rw [hnx, ← hQ]; simp only [List.append_assoc]
     rw [hQ] at hal2 ⊢; have HQ' := hid hQ'; have oww : Only (fun _ => False) w wr := HOB.out.trans HP.out; have HX2 := hid (fun (wx : World) (ox : Only (fun _ => False) wr.drew wx) => have o := (Only.refl _ wr).drew.trans ox; have ow := oww.trans o; And.intro (keepc o c5) (And.intro (keepc ow e0) (keepc ow e1))); have HREC2 := hid (fun (wx : World) (ox : Only (fun _ => False) wr.drew wx) => hrec wx (oww.trans ((Only.refl _ wr).drew.trans ox))); clear hdb hQ hQ' hnx hle hle2 hl1 p1 p2 ha hrec e0 e1 oww c0 c1 c2 c3 c4 c6 hdg
     go_upto_region 15 with (fail)
     clear c5; refine wp_region_steps 17 (by kernel_rfl) rfl (by kernel_rfl) [some 43, some 44, some 45, some 46, some 47, some 48, some 49, some 50, some 51, some 52, some 53, some 54, some 55, some 56, some 57, some 58, some 59] rfl rfl (fun _ => False) [(fun v _ => v = (.string ⟨Q.toArray⟩)), (fun v _ => v = (.pointer (some ⟨bA, 5, none⟩))), (fun v _ => v = (.slice (some ⟨gd, od, none⟩) LD cd)), (fun v _ => v = (.int .i64 (j : Int))), (fun v _ => v = (.pointer (some ⟨gd, od + j * 2, none⟩))), (fun v _ => v = (.pointer (some ⟨gd, od + j * 2, none⟩))), (fun v _ => v = (.string ⟨dn.toArray⟩)), (fun v _ => v = (.string (⟨#[32, 64]⟩ ++ ⟨dn.toArray⟩))), (fun v _ => v = (.pointer (some ⟨bA, 5, none⟩))), (fun v _ => v = (.slice (some ⟨gd, od, none⟩) LD cd)), (fun v _ => v = (.int .i64 (j : Int))), (fun v _ => v = (.pointer (some ⟨gd, od + j * 2, none⟩))), (fun v _ => v = (.pointer (some ⟨gd, od + j * 2 + 1, none⟩))), (fun v _ => v = (.slice ax LX cx)), (fun v _ => v = (.string ⟨rg.toArray⟩)), (fun v _ => v = (.string (⟨#[32, 64]⟩ ++ ⟨dn.toArray⟩ ++ ⟨rg.toArray⟩))), (fun v _ => v = (.string (⟨Q.toArray⟩ ++ (⟨#[32, 64]⟩ ++ ⟨dn.toArray⟩ ++ ⟨rg.toArray⟩))))] rfl ⟨?_, ?_, ?_, ?_, ?_, ?_, ?_, ?_, ?_, ?_, ?_, ?_, ?_, ?_, ?_, ?_, ?_, trivial⟩ _ rfl ⟨?_, ?_, ?_, ?_, ?_, ?_, ?_, ?_, ?_, ?_, ?_, ?_, ?_, ?_, ?_, ?_, ?_, trivial⟩ ?_
     iterate 17 exact Stable.is _ _
     ·intro x wx ox hN TT HTT; unfold StepTo; simp only [putAll, Act.put, zA, zB, zC]; clear hN
      go_wp2_with fail
      exact ⟨rfl, _, rfl, HTT.out _ _ rfl oR⟩
     ·intro x wx ox hN TT HTT; unfold StepTo; simp only [putAll, Act.put, zA, zB, zC]; clear hN
      go_wp2_with fail
      exact ⟨rfl, _, rfl, HTT.out _ _ rfl oR⟩
     ·intro x wx ox hN TT HTT; unfold StepTo; simp only [putAll, Act.put, zA, zB, zC, eI (hN.1 rfl)]; clear hN; obtain ⟨m1, m2, m3⟩ := HX2.out wx ox
      go_wp2_with fail
      exact ⟨rfl, _, rfl, HTT.out _ _ rfl oR⟩
     ·intro x wx ox hN TT HTT; unfold StepTo; simp only [putAll, Act.put, zA, zB, zC]; clear hN
      go_wp2_with fail
      exact ⟨rfl, _, rfl, HTT.out _ _ rfl oR⟩
     ·intro x wx ox hN TT HTT; unfold StepTo; simp only [putAll, Act.put, zA, zB, zC, eI (hN.1 rfl), eI (hN.2.1 rfl)]; clear hN
      go_wp2_with fail
      exact ⟨rfl, _, rfl, HTT.out _ _ rfl oR⟩
     ·intro x wx ox hN TT HTT; unfold StepTo; simp only [putAll, Act.put, zA, zB, zC, eI (hN.1 rfl)]; clear hN
      go_wp2_with fail
      exact ⟨rfl, _, rfl, HTT.out _ _ rfl oR⟩
     ·intro x wx ox hN TT HTT; unfold StepTo; simp only [putAll, Act.put, zA, zB, zC, eI (hN.1 rfl)]; clear hN; obtain ⟨m1, m2, m3⟩ := HX2.out wx ox
      go_wp2_with fail
      exact ⟨rfl, _, rfl, HTT.out _ _ rfl oR⟩
     ·intro x wx ox hN TT HTT; unfold StepTo; simp only [putAll, Act.put, zA, zB, zC, eI (hN.1 rfl)]; clear hN
      go_wp2_with fail
      exact ⟨rfl, _, rfl, HTT.out _ _ rfl oR⟩
     ·intro x wx ox hN TT HTT; unfold StepTo; simp only [putAll, Act.put, zA, zB, zC]; clear hN
      go_wp2_with fail
      exact ⟨rfl, _, rfl, HTT.out _ _ rfl oR⟩
     ·intro x wx ox hN TT HTT; unfold StepTo; simp only [putAll, Act.put, zA, zB, zC, eI (hN.1 rfl)]; clear hN; obtain ⟨m1, m2, m3⟩ := HX2.out wx ox
      go_wp2_with fail
      exact ⟨rfl, _, rfl, HTT.out _ _ rfl oR⟩
     ·intro x wx ox hN TT HTT; unfold StepTo; simp only [putAll, Act.put, zA, zB, zC]; clear hN
      go_wp2_with fail
      exact ⟨rfl, _, rfl, HTT.out _ _ rfl oR⟩
     ·intro x wx ox hN TT HTT; unfold StepTo; simp only [putAll, Act.put, zA, zB, zC, eI (hN.1 rfl), eI (hN.2.1 rfl)]; clear hN
      go_wp2_with fail
      exact ⟨rfl, _, rfl, HTT.out _ _ rfl oR⟩
     ·intro x wx ox hN TT HTT; unfold StepTo; simp only [putAll, Act.put, zA, zB, zC, eI (hN.1 rfl)]; clear hN
      go_wp2_with fail
      exact ⟨rfl, _, rfl, HTT.out _ _ rfl oR⟩
     ·intro x wx ox hN TT HTT; unfold StepTo; simp only [putAll, Act.put, zA, zB, zC, eI (hN.1 rfl)]; clear hN; obtain ⟨m1, m2, m3⟩ := HX2.out wx ox
      go_wp2_with fail
      exact ⟨rfl, _, rfl, HTT.out _ _ rfl oR⟩
     ·intro x wx ox hN TT HTT; unfold StepTo; simp only [putAll, Act.put, zA, zB, zC, eI (hN.1 rfl)]; clear hN; have ht := HREC2.out wx ox; have HT := hid ht; clear ht
      go_wp2_with fail
      refine HT.out.mono ?_
      rintro e w6 ⟨rfl, o6⟩; have O6 := hid o6; clear o6
      go_wp2_with fail
      exact ⟨rfl, _, rfl, HTT.out _ _ rfl (O6.out)⟩
     ·intro x wx ox hN TT HTT; unfold StepTo; simp only [putAll, Act.put, zA, zB, zC, eI (hN.1 rfl), eI (hN.2.1 rfl)]; clear hN
      go_wp2_with fail
      exact ⟨rfl, _, rfl, HTT.out _ _ rfl oR⟩
     ·intro x wx ox hN TT HTT; unfold StepTo; simp only [putAll, Act.put, zA, zB, zC, eI (hN.1 rfl), eI (hN.2.1 rfl)]; clear hN
      go_wp2_with fail
      exact ⟨rfl, _, rfl, HTT.out _ _ rfl oR⟩
     intro xz wxz oxz hN; simp only [putAll, Act.put, zA, zB, zC, eI hN.1, eI hN.2.1, eI hN.2.2.1, eI hN.2.2.2.1, eI hN.2.2.2.2.1, eI hN.2.2.2.2.2.1, eI hN.2.2.2.2.2.2.1, eI hN.2.2.2.2.2.2.2.1, eI hN.2.2.2.2.2.2.2.2.1, eI hN.2.2.2.2.2.2.2.2.2.1, eI hN.2.2.2.2.2.2.2.2.2.2.1, eI hN.2.2.2.2.2.2.2.2.2.2.2.1, eI hN.2.2.2.2.2.2.2.2.2.2.2.2.1, eI hN.2.2.2.2.2.2.2.2.2.2.2.2.2.1, eI hN.2.2.2.2.2.2.2.2.2.2.2.2.2.2.1, eI hN.2.2.2.2.2.2.2.2.2.2.2.2.2.2.2.1, eI hN.2.2.2.2.2.2.2.2.2.2.2.2.2.2.2.2.1]; clear hN; have OY := hid (HP.out.trans ((Only.refl _ wr).drew.trans oxz)); clear oxz
     go_wp2_with fail
     go_roundw
     case rel => exact ⟨j + 1, by simp, by omega, by rw [HQ'.out]; simp only [← cat_list], OY⟩
     case measure => simp [intOf]; omega
    ·have t4 : decide ((j : Int) < (LD : Int)) = false := decide_eq_false (by omega); have hjn : j = LD := by omega
     subst hjn; have hR := HR1.out; obtain ⟨Q, hQ⟩ := eX (hd ++ flB dirB ds j); rw [hQ] at hal2 hR ⊢; have hn0 : 0 < LS := by have := HLS.out; have := List.length_pos_iff.2 hs0; omega
     have t5 : decide ((LS : Int) > 0) = true := decide_eq_true (by omega); rw [if_neg hs0] at hR hl1; have hsl : (ren (setI sub)).length ≤ 1000000000000 := by omega
     have HS := hid (HSA.out (hsub hs0) hsl wr (HOB.out.trans HP.out)); have HR2 := hid hR
     generalize ren (setI sub) = rs at *
     clear hR hQ hle hl1 hs0 c0 c1 c2 c3 c4
     go_wp2_with fail
     refine HS.out.mono ?_
     rintro e w6 ⟨rfl, o6⟩; have HO6 := hid ((HOB.out.trans HP.out).trans o6); clear c5 c6 o6
     go_wp2_with fail
     go_ret
     rw [← HR2.out]; simp only [← cat_list]; exact ⟨rfl, HO6.out⟩
  ·skip; have u1 : ((k : Int) == 1) = false := by simp; omega
   have u2 : ((k : Int) == 2) = false := by simp; omega
   have hhd : ren (headI k al nm on_ gs) = [46, 46, 46] ++ ([32, 111, 110, 32] ++ on_) := by unfold headI; rw [if_neg (by omega), if_neg (by omega), if_neg hon]; simp [ren, It.src, nmI, doI, wOn]
   have hR := HR.out; have hl0 := HL0.out; rw [hhd] at hR hl0; obtain ⟨hd, hhd2⟩ : ∃ h : List UInt8, [46, 46, 46] ++ ([32, 111, 110, 32] ++ on_) = h := ⟨_, rfl⟩; rw [hhd2] at hR hl0; have hl1 := hl0; rw [← hhd2] at hl1; simp only [List.length_append, List.length_cons, List.length_nil] at hl1; have HHD := hid hhd2; have HR1 := hid hR; have HL1 := hid hl0; have hol : on_.length ≤ 1000000000000 := by omega
   have z1 : (on_ == []) = false := by simpa using hon
   have z2 : (on_ != []) = true := by simpa using hon
   have HON := hid hon; have HK := hid hk; have OZ := hid (Only.refl (fun _ => False) wb); clear hhd hhd2 hR hl0 hl1 hk hon
   go_enter Tryz.func28, Tryz.ntmps28
   go_upto_region 1 with (fail)
   rw [HWB.out, HBA.out]
   go_wp2_with fail
   clear c0 c1 c2 c3 c4 c5 c6
   go_loopw [3, 4] (fun x y wr => ∃ i : Nat, y = .int .i64 (i : Int) ∧ i ≤ LD ∧ x = .string ⟨(hd ++ flB dirB ds i).toArray⟩ ∧ Hid (Only (fun _ => False) wb wr)) (fun _ y _ => LD - (intOf y).toNat)
   case atStart => exact ⟨0, rfl, by omega, by rw [show flB dirB ds 0 = [] from rfl, List.append_nil, ← HHD.out]; simp only [← cat_list], OZ⟩
   case round =>
    obtain ⟨j, rfl, hj, rfl, HP⟩ := hrel; obtain ⟨c0, c1, c2, c3, c4, c5, c6⟩ := HC.out; have c5 := keepc HP.out c5; have c6 := keepc HP.out c6; have hle := flB_le dirB ds j; rw [HLD.out] at hle; have hl1 := HL1.out; have hal2 : (hd ++ flB dirB ds j).length ≤ 1000000000000 := by rw [List.length_append]; omega
    by_cases hltj : j < LD
    ·have t4 : decide ((j : Int) < (LD : Int)) = true := decide_eq_true (by omega); have hj0 : (0 : Int) ≤ (j : Int) := by omega
     have hj1 : (j : Int) < (LD : Int) := by omega
     have hjl : j < ds.length := by rw [HLD.out]; exact hltj
     have hnx := flB_next dirB ds j hjl; have hle2 := flB_le dirB ds (j + 1); rw [HLD.out, hnx] at hle2; rw [List.length_append] at hle2; have hdb : (dirB ds[j]).length = 2 + ds[j].name.length + (ren (argsI ds[j].args)).length := by unfold dirB; simp only [List.length_append, List.length_cons, List.length_nil]
     obtain ⟨gd, od, ys, rfl, -, p1, p2⟩ := HND.out j hjl; obtain ⟨av, rfl, ha⟩ := dir_cells p2; have hdg := (HDG.out ds[j] (List.getElem_mem hjl)).2; have hgl2 : (ren (argsI ds[j].args)).length ≤ 1000000000000 := by omega
     have hdn : ds[j].name.length ≤ 1000000000000 := by omega
     have hrec := fun (wx : World) (ox : Only (fun _ => False) w wx) => prA_any ds[j].args (fun a ha => goodA_well (hdg a ha)) G wx av (CellAt.only ox (fun _ _ h => h) _ _ ha) hgl2
     obtain ⟨ax, cx, rfl, -, -, -⟩ := rows_at ha; obtain ⟨e0, e1⟩ := cells2_of p1; have hnx : flB dirB ds (j + 1) = flB dirB ds j ++ ([32, 64] ++ ds[j].name ++ ren (argsI ds[j].args)) := hnx
     generalize ren (argsI ds[j].args) = rg at *
     generalize ds[j].args.length = LX at *
     generalize ds[j].name = dn at *
     obtain ⟨Q, hQ⟩ := eX (hd ++ flB dirB ds j); have hQ' : hd ++ flB dirB ds (j + 1) = Q ++ ([32, 64] ++ dn ++ rg) := by rw [hnx, ← hQ]; simp only [List.append_assoc]
     rw [hQ] at hal2 ⊢; have HQ' := hid hQ'; have oww : Only (fun _ => False) w wr := HOB.out.trans HP.out; have HX2 := hid (fun (wx : World) (ox : Only (fun _ => False) wr.drew wx) => have o := (Only.refl _ wr).drew.trans ox; have ow := oww.trans o; And.intro (keepc o c5) (And.intro (keepc ow e0) (keepc ow e1))); have HREC2 := hid (fun (wx : World) (ox : Only (fun _ => False) wr.drew wx) => hrec wx (oww.trans ((Only.refl _ wr).drew.trans ox))); clear hdb hQ hQ' hnx hle hle2 hl1 p1 p2 ha hrec e0 e1 oww c0 c1 c2 c3 c4 c6 hdg
     go_upto_region 15 with (fail)
     clear c5; refine wp_region_steps 17 (by kernel_rfl) rfl (by kernel_rfl) [some 43, some 44, some 45, some 46, some 47, some 48, some 49, some 50, some 51, some 52, some 53, some 54, some 55, some 56, some 57, some 58, some 59] rfl rfl (fun _ => False) [(fun v _ => v = (.string ⟨Q.toArray⟩)), (fun v _ => v = (.pointer (some ⟨bA, 5, none⟩))), (fun v _ => v = (.slice (some ⟨gd, od, none⟩) LD cd)), (fun v _ => v = (.int .i64 (j : Int))), (fun v _ => v = (.pointer (some ⟨gd, od + j * 2, none⟩))), (fun v _ => v = (.pointer (some ⟨gd, od + j * 2, none⟩))), (fun v _ => v = (.string ⟨dn.toArray⟩)), (fun v _ => v = (.string (⟨#[32, 64]⟩ ++ ⟨dn.toArray⟩))), (fun v _ => v = (.pointer (some ⟨bA, 5, none⟩))), (fun v _ => v = (.slice (some ⟨gd, od, none⟩) LD cd)), (fun v _ => v = (.int .i64 (j : Int))), (fun v _ => v = (.pointer (some ⟨gd, od + j * 2, none⟩))), (fun v _ => v = (.pointer (some ⟨gd, od + j * 2 + 1, none⟩))), (fun v _ => v = (.slice ax LX cx)), (fun v _ => v = (.string ⟨rg.toArray⟩)), (fun v _ => v = (.string (⟨#[32, 64]⟩ ++ ⟨dn.toArray⟩ ++ ⟨rg.toArray⟩))), (fun v _ => v = (.string (⟨Q.toArray⟩ ++ (⟨#[32, 64]⟩ ++ ⟨dn.toArray⟩ ++ ⟨rg.toArray⟩))))] rfl ⟨?_, ?_, ?_, ?_, ?_, ?_, ?_, ?_, ?_, ?_, ?_, ?_, ?_, ?_, ?_, ?_, ?_, trivial⟩ _ rfl ⟨?_, ?_, ?_, ?_, ?_, ?_, ?_, ?_, ?_, ?_, ?_, ?_, ?_, ?_, ?_, ?_, ?_, trivial⟩ ?_
     iterate 17 exact Stable.is _ _
     ·intro x wx ox hN TT HTT; unfold StepTo; simp only [putAll, Act.put, zA, zB, zC]; clear hN
      go_wp2_with fail
      exact ⟨rfl, _, rfl, HTT.out _ _ rfl oR⟩
     ·intro x wx ox hN TT HTT; unfold StepTo; simp only [putAll, Act.put, zA, zB, zC]; clear hN
      go_wp2_with fail
      exact ⟨rfl, _, rfl, HTT.out _ _ rfl oR⟩
     ·intro x wx ox hN TT HTT; unfold StepTo; simp only [putAll, Act.put, zA, zB, zC, eI (hN.1 rfl)]; clear hN; obtain ⟨m1, m2, m3⟩ := HX2.out wx ox
      go_wp2_with fail
      exact ⟨rfl, _, rfl, HTT.out _ _ rfl oR⟩
     ·intro x wx ox hN TT HTT; unfold StepTo; simp only [putAll, Act.put, zA, zB, zC]; clear hN
      go_wp2_with fail
      exact ⟨rfl, _, rfl, HTT.out _ _ rfl oR⟩
     ·intro x wx ox hN TT HTT; unfold StepTo; simp only [putAll, Act.put, zA, zB, zC, eI (hN.1 rfl), eI (hN.2.1 rfl)]; clear hN
      go_wp2_with fail
      exact ⟨rfl, _, rfl, HTT.out _ _ rfl oR⟩
     ·intro x wx ox hN TT HTT; unfold StepTo; simp only [putAll, Act.put, zA, zB, zC, eI (hN.1 rfl)]; clear hN
      go_wp2_with fail
      exact ⟨rfl, _, rfl, HTT.out _ _ rfl oR⟩
     ·intro x wx ox hN TT HTT; unfold StepTo; simp only [putAll, Act.put, zA, zB, zC, eI (hN.1 rfl)]; clear hN; obtain ⟨m1, m2, m3⟩ := HX2.out wx ox
      go_wp2_with fail
      exact ⟨rfl, _, rfl, HTT.out _ _ rfl oR⟩
     ·intro x wx ox hN TT HTT; unfold StepTo; simp only [putAll, Act.put, zA, zB, zC, eI (hN.1 rfl)]; clear hN
      go_wp2_with fail
      exact ⟨rfl, _, rfl, HTT.out _ _ rfl oR⟩
     ·intro x wx ox hN TT HTT; unfold StepTo; simp only [putAll, Act.put, zA, zB, zC]; clear hN
      go_wp2_with fail
      exact ⟨rfl, _, rfl, HTT.out _ _ rfl oR⟩
     ·intro x wx ox hN TT HTT; unfold StepTo; simp only [putAll, Act.put, zA, zB, zC, eI (hN.1 rfl)]; clear hN; obtain ⟨m1, m2, m3⟩ := HX2.out wx ox
      go_wp2_with fail
      exact ⟨rfl, _, rfl, HTT.out _ _ rfl oR⟩
     ·intro x wx ox hN TT HTT; unfold StepTo; simp only [putAll, Act.put, zA, zB, zC]; clear hN
      go_wp2_with fail
      exact ⟨rfl, _, rfl, HTT.out _ _ rfl oR⟩
     ·intro x wx ox hN TT HTT; unfold StepTo; simp only [putAll, Act.put, zA, zB, zC, eI (hN.1 rfl), eI (hN.2.1 rfl)]; clear hN
      go_wp2_with fail
      exact ⟨rfl, _, rfl, HTT.out _ _ rfl oR⟩
     ·intro x wx ox hN TT HTT; unfold StepTo; simp only [putAll, Act.put, zA, zB, zC, eI (hN.1 rfl)]; clear hN
      go_wp2_with fail
      exact ⟨rfl, _, rfl, HTT.out _ _ rfl oR⟩
     ·intro x wx ox hN TT HTT; unfold StepTo; simp only [putAll, Act.put, zA, zB, zC, eI (hN.1 rfl)]; clear hN; obtain ⟨m1, m2, m3⟩ := HX2.out wx ox
      go_wp2_with fail
      exact ⟨rfl, _, rfl, HTT.out _ _ rfl oR⟩
     ·intro x wx ox hN TT HTT; unfold StepTo; simp only [putAll, Act.put, zA, zB, zC, eI (hN.1 rfl)]; clear hN; have ht := HREC2.out wx ox; have HT := hid ht; clear ht
      go_wp2_with fail
      refine HT.out.mono ?_
      rintro e w6 ⟨rfl, o6⟩; have O6 := hid o6; clear o6
      go_wp2_with fail
      exact ⟨rfl, _, rfl, HTT.out _ _ rfl (O6.out)⟩
     ·intro x wx ox hN TT HTT; unfold StepTo; simp only [putAll, Act.put, zA, zB, zC, eI (hN.1 rfl), eI (hN.2.1 rfl)]; clear hN
      go_wp2_with fail
      exact ⟨rfl, _, rfl, HTT.out _ _ rfl oR⟩
     ·intro x wx ox hN TT HTT; unfold StepTo; simp only [putAll, Act.put, zA, zB, zC, eI (hN.1 rfl), eI (hN.2.1 rfl)]; clear hN
      go_wp2_with fail
      exact ⟨rfl, _, rfl, HTT.out _ _ rfl oR⟩
     intro xz wxz oxz hN; simp only [putAll, Act.put, zA, zB, zC, eI hN.1, eI hN.2.1, eI hN.2.2.1, eI hN.2.2.2.1, eI hN.2.2.2.2.1, eI hN.2.2.2.2.2.1, eI hN.2.2.2.2.2.2.1, eI hN.2.2.2.2.2.2.2.1, eI hN.2.2.2.2.2.2.2.2.1, eI hN.2.2.2.2.2.2.2.2.2.1, eI hN.2.2.2.2.2.2.2.2.2.2.1, eI hN.2.2.2.2.2.2.2.2.2.2.2.1, eI hN.2.2.2.2.2.2.2.2.2.2.2.2.1, eI hN.2.2.2.2.2.2.2.2.2.2.2.2.2.1, eI hN.2.2.2.2.2.2.2.2.2.2.2.2.2.2.1, eI hN.2.2.2.2.2.2.2.2.2.2.2.2.2.2.2.1, eI hN.2.2.2.2.2.2.2.2.2.2.2.2.2.2.2.2.1]; clear hN; have OY := hid (HP.out.trans ((Only.refl _ wr).drew.trans oxz)); clear oxz
     go_wp2_with fail
     go_roundw
     case rel => exact ⟨j + 1, by simp, by omega, by rw [HQ'.out]; simp only [← cat_list], OY⟩
     case measure => simp [intOf]; omega
    ·have t4 : decide ((j : Int) < (LD : Int)) = false := decide_eq_false (by omega); have hjn : j = LD := by omega
     subst hjn; have hR := HR1.out; obtain ⟨Q, hQ⟩ := eX (hd ++ flB dirB ds j); rw [hQ] at hal2 hR ⊢; have hn0 : 0 < LS := by have := HLS.out; have := List.length_pos_iff.2 hs0; omega
     have t5 : decide ((LS : Int) > 0) = true := decide_eq_true (by omega); rw [if_neg hs0] at hR hl1; have hsl : (ren (setI sub)).length ≤ 1000000000000 := by omega
     have HS := hid (HSA.out (hsub hs0) hsl wr (HOB.out.trans HP.out)); have HR2 := hid hR
     generalize ren (setI sub) = rs at *
     clear hR hQ hle hl1 hs0 c0 c1 c2 c3 c4
     go_wp2_with fail
     refine HS.out.mono ?_
     rintro e w6 ⟨rfl, o6⟩; have HO6 := hid ((HOB.out.trans HP.out).trans o6); clear c5 c6 o6
     go_wp2_with fail
     go_ret
     rw [← HR2.out]; simp only [← cat_list]; exact ⟨rfl, HO6.out⟩
theorem setC_all : ∀ d, SetC d
 | 0 => fun l hg => hg.elim
 | d + 1 => set_of d (sel_of d (setC_all d))
end Go.Proofs.YtnkpoddbbdmipaaGreatDoor
