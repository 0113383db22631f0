/- . -/
import Derived.Test.YtnkpoddbbdmipaaGreatDoorTApPpa
import Derived.Test.YtnkpoddbbdmipaaGreatDoorTApPrs
namespace Go.Proofs.YtnkpoddbbdmipaaGreatDoor
open Go Go.RowKit
open Go.Lib (hid)
set_option linter.unusedVariables false
set_option linter.unusedSimpArgs false
theorem goodV_wellQ (fx : Bool) : ∀ (d : Nat) (v : VT), GoodV fx d v → WellQ v
 | 0, _, h => h.elim
 | d + 1, .mk k n s ks vs, h => by
  rcases h with ⟨rfl, hn, rfl, rfl, rfl⟩ | ⟨rfl, rfl, _, rfl, rfl⟩ | ⟨rfl, hn, rfl, rfl, rfl⟩ | ⟨rfl, rfl, rfl, rfl, rfl⟩ | ⟨rfl, rfl, _, _, _, _, rfl, rfl⟩ | ⟨rfl, _, rfl, _, rfl, rfl⟩ | ⟨rfl, rfl, rfl, rfl, hv⟩ | ⟨rfl, rfl, rfl, ps, rfl, rfl, hp⟩
  ·exact .mk _ _ _ _ _ (by omega) (by unfold NumOk at hn; omega) (.inl rfl) (by simp)
  ·exact .mk _ _ _ _ _ (by omega) (by omega) (.inl rfl) (by simp)
  ·exact .mk _ _ _ _ _ (by omega) (by omega) (.inl rfl) (by simp)
  ·exact .mk _ _ _ _ _ (by omega) (by omega) (.inl rfl) (by simp)
  ·exact .mk _ _ _ _ _ (by omega) (by omega) (.inl rfl) (by simp)
  ·exact .mk _ _ _ _ _ (by omega) (by omega) (.inl rfl) (by simp)
  ·exact .mk _ _ _ _ _ (by omega) (by omega) (.inr (.inl rfl)) (fun v hvv => goodV_wellQ fx d v (hv v hvv))
  ·exact .mk _ _ _ _ _ (by omega) (by omega) (.inr (.inr ⟨rfl, by simp⟩)) (fun v hvv => by
    obtain ⟨p, hpp, rfl⟩ := List.mem_map.1 hvv
    exact goodV_wellQ fx d p.2 (hp p hpp).2)
theorem goodA_wellQ {d : Nat} {a : AR} (h : GoodA d a) : WellQ a.v := goodV_wellQ false d a.v h.2
def PSetC (d : Nat) : Prop := ∀ (l : List SL), GoodS d l → ∀ (G : Nat → Prop) (w : World) (v : Value), CellAt w G (.row 7 (l.map selC)) v → Tab w → (ren (setI l)).length ≤ 1000000000000 →
  Calls Tryz.prog 47 #[v] w (fun e w' => e = .returned (.string ⟨(ren (setI l)).toArray⟩) ∧ Only (fun _ => False) w w')
def PSelC (d : Nat) : Prop := ∀ (x : SL), GoodSel d (GoodS d) x → ∀ (G : Nat → Prop) (w : World) (cs : List Value), CellsAt w G (selC x) cs → Tab w → (ren (selI x)).length ≤ 1000000000000 →
  Calls Tryz.prog 27 #[.agg cs.toArray] w (fun e w' => e = .returned (.string ⟨(ren (selI x)).toArray⟩) ∧ Only (fun _ => False) w w')
theorem flat_join {α : Type} (f : α → List UInt8) (g : List UInt8) : ∀ l : List α, l ≠ [] → l.flatMap (fun x => g ++ f x) = g ++ Lib.join (l.map f) g
 | [], h => absurd rfl h
 | [a], _ => by simp [Lib.join]
 | a :: b :: l, _ => by
  have ih := flat_join f g (b :: l) (by simp); have e : Lib.join ((a :: b :: l).map f) g = f a ++ g ++ Lib.join ((b :: l).map f) g := by simp [Lib.join, List.intercalate, List.intersperse]
  rw [List.flatMap_cons, ih, e]; simp
theorem set_renQ {l : List SL} (h : l ≠ []) : ren (setI l) = [32, 123, 32] ++ Lib.join (l.map fun x => ren (selI x)) [32] ++ [32, 125] := by
 rw [set_ren]; unfold flB selB; rw [List.take_length, flat_join _ [32] l h]; simp
theorem join_part {α : Type} (f : α → List UInt8) (g : List UInt8) : ∀ (l : List α) (i : Nat) (h : i < l.length), (f l[i]).length ≤ (Lib.join (l.map f) g).length
 | [a], 0, _ => by simp [Lib.join]
 | a :: b :: l, 0, _ => by
  have e : Lib.join ((a :: b :: l).map f) g = f a ++ g ++ Lib.join ((b :: l).map f) g := by simp [Lib.join, List.intercalate, List.intersperse]
  rw [e]; simp only [List.length_append, List.getElem_cons_zero]; omega
 | [a], i + 1, h => by simp at h
 | a :: b :: l, i + 1, h => by
  have ih := join_part f g (b :: l) i (by simpa using h); have e : Lib.join ((a :: b :: l).map f) g = f a ++ g ++ Lib.join ((b :: l).map f) g := by simp [Lib.join, List.intercalate, List.intersperse]
  rw [e, List.getElem_cons_succ]; simp only [List.length_append]; omega
set_option maxRecDepth 100000 in
set_option maxHeartbeats 16000000 in
theorem pset_of (d : Nat) (ih : PSelC d) : PSetC (d + 1) := by
 intro l hg G w v h ht hl; have hsr := set_renQ hg.1; rw [hsr] at hl ⊢; obtain ⟨a, c, rfl, k1, k2, k3⟩ := rows_at h; have hjl : (Lib.join (l.map fun x => ren (selI x)) [32]).length ≤ 1000000000000 := by simp at hl; omega
 have J := pjoinS_any l (fun x => ren (selI x)) G w (.slice a l.length c) [32] (by decide) h (fun i hi wx cs ox hc => ih l[i] (hg.2 _ (List.getElem_mem hi)) G wx cs hc (ht.still ox) (Nat.le_trans (join_part (fun x => ren (selI x)) [32] l i hi) hjl)) hjl; obtain ⟨jn, hjn⟩ := eX (Lib.join (l.map fun x => ren (selI x)) [32]); rw [hjn] at J hjl ⊢; obtain ⟨R, hR⟩ : ∃ x, [32, 123, 32] ++ jn ++ [32, 125] = x := ⟨_, rfl⟩; rw [hR]; have HRR := hid hR; have J := hid J; obtain ⟨L, hL⟩ := eX (l.length); rw [hL] at J k1 ⊢; clear h ht hl hsr hjn hR k3 hg ih hL
 go_enter Tryz.func47, Tryz.ntmps47
 go_wp2_with fail
 refine J.out.mono ?_
 rintro e w2 ⟨rfl, o2⟩; have HO2 := hid o2; clear o2
 go_wp2_with fail
 go_ret
 rw [← HRR.out, ← cat_list, ← cat_list]; exact ⟨rfl, HO2.out⟩
set_option maxRecDepth 100000 in
set_option maxHeartbeats 16000000 in
theorem psel_of (d : Nat) (ih : PSetC d) : PSelC d := by
 intro x hx G w cs h ht hl; obtain ⟨k, al, nm, on_, gs, ds, sub⟩ := x; obtain ⟨gv, dv, sv, rfl, hg, hd, hs⟩ := sel_cells h; have hcase := hx.2; have hdirs := hx.1; have hR0 := selI_eq k al nm on_ gs ds sub; obtain ⟨R, hR⟩ := eX (ren (selI (.mk k al nm on_ gs ds sub))); rw [hR] at hl ⊢; rw [hR0, ren_app, ren_app, dirs_ren] at hR; have hl0 := hl; rw [← hR] at hl0; simp only [List.length_append] at hl0; have hga := fun (hh : ∀ a ∈ gs, GoodA d a) (hle : (ren (argsI gs)).length ≤ 1000000000000) (wx : World) (ox : Only (fun _ => False) w wx) => ppA_any gs (fun a ha => goodA_wellQ (hh a ha)) G wx gv (CellAt.only ox (fun _ _ h => h) _ _ hg) (ht.still ox) hle
 have hsa := fun (hh : GoodS d sub) (hle : (ren (setI sub)).length ≤ 1000000000000) (wx : World) (ox : Only (fun _ => False) w wx) => ih sub hh G wx sv (CellAt.only ox (fun _ _ h => h) _ _ hs) (ht.still ox) hle
 obtain ⟨ag, cg, rfl, -, -, -⟩ := rows_at hg; obtain ⟨ad, cd, rfl, n1, n2, n3⟩ := rows_at hd; obtain ⟨as_, cs_, rfl, -, -, -⟩ := rows_at hs; obtain ⟨LG, hLG⟩ := eX (gs.length); obtain ⟨LD, hLD⟩ := eX (ds.length); obtain ⟨LS, hLS⟩ := eX (sub.length); rw [hLG] at hga ⊢; rw [hLD] at n1 hR hl0 ⊢; rw [hLS] at hsa ⊢; obtain ⟨wb, hwb⟩ := eX (w.alloc (.cells #[.int .u8 (k : Int), .string ⟨al.toArray⟩, .string ⟨nm.toArray⟩, .string ⟨on_.toArray⟩, .slice ag LG cg, .slice ad LD cd, .slice as_ LS cs_] 53)); have ob : Only (fun _ => False) w wb := by rw [← hwb]; exact (Only.refl _ w).alloc _
 obtain ⟨bA, hbA⟩ := eX (w.heap.size); have hx1 : wb.heap[bA]? = some (.cells #[.int .u8 (k : Int), .string ⟨al.toArray⟩, .string ⟨nm.toArray⟩, .string ⟨on_.toArray⟩, .slice ag LG cg, .slice ad LD cd, .slice as_ LS cs_] 53 (0, 0)) := by rw [← hwb, ← hbA]; exact heap_new w _
 obtain ⟨pre, hpre⟩ := eX (ren (headI k al nm on_ gs)); rw [hpre] at hR hl0; have HC := hid hx1; have HT := hid (ht.still ob); have HOB := hid ob; have HWB := hid hwb; have HBA := hid hbA; have HGA := hid hga; have HSA := hid hsa; have HND := hid n3; have HLD := hid hLD; have HLS := hid hLS; have HR := hid hR; have HDG := hid hdirs; have HL0 := hid hl0; have HPRE := hid hpre; have HCASE := hid hcase; have hpl : pre.length ≤ 1000000000000 := by omega
 have HPG := hid (show (k = 1 → (ren (argsI gs)).length ≤ 1000000000000 ∧ nm.length ≤ 1000000000000 ∧ (al ≠ [] → al.length ≤ 1000000000000)) ∧ (k = 2 → nm.length ≤ 1000000000000) ∧ (k = 3 → on_ ≠ [] → on_.length ≤ 1000000000000) by
  refine ⟨fun hk => ?_, fun hk => ?_, fun hk ho => ?_⟩
  ·unfold headI at hpre; rw [if_pos hk] at hpre
   by_cases hal : al = []
   ·rw [if_pos hal, ren_app, ren_cons] at hpre; have e := congrArg List.length hpre; simp [It.src, nmI, ren_nil] at e; exact ⟨by omega, by omega, fun h => absurd hal h⟩
   ·rw [if_neg hal, ren_app, ren_cons, ren_cons, ren_cons, ren_cons] at hpre; have e := congrArg List.length hpre; simp [It.src, nmI, sgI, ren_nil] at e; exact ⟨by omega, by omega, fun _ => by omega⟩
  ·unfold headI at hpre; rw [if_neg (by omega), if_pos hk, ren_cons, ren_cons] at hpre; have e := congrArg List.length hpre; simp [It.src, nmI, doI, ren_nil] at e; omega
  ·unfold headI at hpre; rw [if_neg (by omega), if_neg (by omega), if_neg ho, ren_cons, ren_cons, ren_cons, ren_cons, ren_cons] at hpre; have e := congrArg List.length hpre; simp [It.src, nmI, doI, wOn, ren_nil] at e
   omega)
 clear hx1 hwb hbA hga hsa n3 hLG hLD hLS h hg hd hs hx hR hR0 hl hl0 hdirs ih ob hpre hcase ht
 go_enter Tryz.func27, Tryz.ntmps27
 go_upto_region 1 with (fail)
 rw [HWB.out, HBA.out]; clear HWB HBA; obtain ⟨c0, c1, c2, c3, c4, c5, c6, -⟩ := boxN7 HC.out
 go_upto_block 0 with (fail)
 clear c5 c6
 go_cut [3] from 8 to 36 (fun v w' => v = .string ⟨pre.toArray⟩ ∧ Hid (Only (fun _ => False) wb w'))
 case first =>
  rcases HCASE.out with ⟨hk, hon0, hal0, hnm, hgs, hsub0⟩ | ⟨hk, hal0, hon0, hnm, hno, hgs0, hs0⟩ | ⟨hk, hal0, hnm0, hon0, hgs0, hsub0⟩
  ·have u1 : ((k : Int) == 1) = true := by simp; omega
   obtain ⟨hgl, hnl, hall⟩ := HPG.out.1 hk; have J := hid (HGA.out hgs hgl wb HOB.out); obtain ⟨ga, hga⟩ := eX (ren (argsI gs)); rw [hga] at J hgl; have HGAE := hid hga
   by_cases hal : al = []
   ·have hpe : pre = nm ++ ga := by
     rw [← HPRE.out]; unfold headI; rw [if_pos hk, if_pos hal, ren_app, ren_cons, HGAE.out]; simp [It.src, nmI, ren_nil]
    have HPE := hid hpe; have u2 : (al != []) = false := by simp [hal]
    have z2 : (al == []) = true := by simp [hal]
    clear hpe hga hal hall hgs hsub0 hal0 hnm hon0 hk
    go_wp2_with fail
    refine J.out.mono ?_
    rintro e w2 ⟨rfl, o2⟩; have HO2 := hid o2; clear o2 c0 c1 c2 c3 c4
    go_wp2_with fail
    go_meet
    case rel => exact ⟨by rw [HPE.out, ← cat_list], HO2⟩
   ·have hpe : pre = al ++ [58, 32] ++ nm ++ ga := by
     rw [← HPRE.out]; unfold headI; rw [if_pos hk, if_neg hal, ren_app, ren_cons, ren_cons, ren_cons, ren_cons, HGAE.out]; simp [It.src, nmI, sgI, ren_nil]
    have HPE := hid hpe; have hall := hall hal; have u2 : (al != []) = true := by simpa using hal
    have z2 : (al == []) = false := by simpa using hal
    clear hpe hga hal hgs hsub0 hal0 hnm hon0 hk
    go_wp2_with fail
    refine J.out.mono ?_
    rintro e w2 ⟨rfl, o2⟩; have HO2 := hid o2; clear o2 c0 c1 c2 c3 c4
    go_wp2_with fail
    go_meet
    case rel => exact ⟨by rw [HPE.out]; simp only [← cat_list], HO2⟩
  ·have u1 : ((k : Int) == 1) = false := by simp; omega
   have u2 : ((k : Int) == 2) = true := by simp; omega
   have hnl := HPG.out.2.1 hk; have hpe : pre = [46, 46, 46] ++ nm := by
    rw [← HPRE.out]; unfold headI; rw [if_neg (by omega), if_pos hk, ren_cons, ren_cons]; simp [It.src, nmI, doI, ren_nil]
   have HPE := hid hpe; clear hpe hal0 hon0 hnm hno hgs0 hs0 hk
   go_wp2_with fail
   clear c0 c1 c2 c3 c4
   go_meet
   case rel => exact ⟨by rw [HPE.out, ← cat_list], hid oR⟩
  ·have u1 : ((k : Int) == 1) = false := by simp; omega
   have u2 : ((k : Int) == 2) = false := by simp; omega
   by_cases ho : on_ = []
   ·have hpe : pre = [46, 46, 46] := by
     rw [← HPRE.out]; unfold headI; rw [if_neg (by omega), if_neg (by omega), if_pos ho, ren_cons]; simp [It.src, doI, ren_nil]
    have HPE := hid hpe; have u3 : (on_ != []) = false := by simp [ho]
    have z3 : (on_ == []) = true := by simp [ho]
    clear hpe hal0 hon0 hnm0 hgs0 hsub0 ho hk
    go_wp2_with fail
    clear c0 c1 c2 c3 c4
    go_meet
    case rel => exact ⟨by rw [HPE.out], hid oR⟩
   ·have hpe : pre = [46, 46, 46] ++ ([32, 111, 110, 32] ++ on_) := by
     rw [← HPRE.out]; unfold headI; rw [if_neg (by omega), if_neg (by omega), if_neg ho, ren_cons, ren_cons, ren_cons, ren_cons, ren_cons]; simp [It.src, nmI, doI, wOn, ren_nil]
    have HPE := hid hpe; have hol := HPG.out.2.2 hk ho; have u3 : (on_ != []) = true := by simpa using ho
    have z3 : (on_ == []) = false := by simpa using ho
    clear hpe hal0 hon0 hnm0 hgs0 hsub0 ho hk
    go_wp2_with fail
    clear c0 c1 c2 c3 c4
    go_meet
    case rel => exact ⟨by rw [HPE.out]; simp only [← cat_list], hid oR⟩
 case rest =>
 obtain ⟨rfl, HO1⟩ := hcut; obtain ⟨w1, hw1⟩ := eX (wc); rw [hw1] at HO1 ⊢; clear hw1 c0 c1 c2 c3 c4; obtain ⟨c0, c1, c2, c3, c4, c5, c6, -⟩ := boxN7 ((HO1.out.block bA (gE HC.out).1 (fun h => h)).trans HC.out); clear c0 c1 c2 c3 c4 c6
 go_wp2_with fail
 clear c5
 go_loopw [3, 40] (fun x y wr => ∃ i : Nat, y = .int .i64 (i : Int) ∧ i ≤ LD ∧ x = .string ⟨(pre ++ flB dirB ds i).toArray⟩ ∧ Hid (Only (fun _ => False) wb wr)) (fun _ y _ => LD - (intOf y).toNat)
 case atStart => exact ⟨0, rfl, by omega, by rw [show flB dirB ds 0 = [] from rfl, List.append_nil], HO1⟩
 case round =>
  obtain ⟨j, rfl, hj, rfl, HP⟩ := hrel; have hfl := flB_le dirB ds j; rw [HLD.out] at hfl
  by_cases hlt : j < LD
  ·have t1 : decide ((j : Int) < (LD : Int)) = true := decide_eq_true (by omega); have hi0 : (0 : Int) ≤ (j : Int) := by omega
   have hi1 : (j : Int) < (LD : Int) := by omega
   have hvj : j < ds.length := by rw [HLD.out]; exact hlt
   obtain ⟨gd, od, cs, rfl, -, hr, hc⟩ := HND.out j hvj; obtain ⟨gv2, rfl, hga2⟩ := dir_cells hc; have hfn := flB_next dirB ds j hvj; have hfl2 := flB_le dirB ds (j + 1); rw [HLD.out, hfn] at hfl2; have hdb : dirB ds[j] = [32, 64] ++ ds[j].name ++ ren (argsI ds[j].args) := rfl; rw [hdb] at hfl2 hfn; simp only [List.length_append, List.length_cons, List.length_nil] at hfl2; have hl0 := HL0.out; have hgl : (ren (argsI ds[j].args)).length ≤ 1000000000000 := by omega
   have hrec := fun (wx : World) (ox : Only (fun _ => False) wb wx) => ppA_any ds[j].args (fun a ha => goodA_wellQ ((HDG.out _ (List.getElem_mem hvj)).2 a ha)) G wx gv2 (CellAt.only (HOB.out.trans ox) (fun _ _ h => h) _ _ hga2) (HT.out.still ox) hgl
   obtain ⟨a2, c2, rfl⟩ := row_form hga2; obtain ⟨l2, hl2⟩ := eX ((ds[j].args.map argC).length); rw [hl2] at hrec hr; obtain ⟨ga, hga⟩ := eX (ren (argsI ds[j].args)); obtain ⟨dn, hdn⟩ := eX (ds[j].name); rw [hga] at hrec hgl hfl2 hfn; rw [hdn] at hfl2 hfn hr; have e0 := keepc (HOB.out.trans HP.out) (hr 0 _ rfl); have e1 := keepc (HOB.out.trans HP.out) (hr 1 _ rfl); rw [Nat.add_zero] at e0; have hdl : dn.length ≤ 1000000000000 := by omega
   obtain ⟨X, hX⟩ := eX (wr.heap.size); obtain ⟨w4, hw4⟩ := eX (wr.alloc (.cells #[.string ⟨dn.toArray⟩, .slice a2 l2 c2] 96)); have o4 : Only (fun _ => False) wr w4 := by rw [← hw4]; exact (Only.refl _ _).alloc _
   have hx4 : w4.heap[X]? = some (.cells #[.string ⟨dn.toArray⟩, .slice a2 l2 c2] 96 (0, 0)) := by rw [← hw4, ← hX]; exact heap_new _ _
   obtain ⟨acc, hacc⟩ := eX (pre ++ flB dirB ds j); have hal : acc.length ≤ 1000000000000 := by rw [← hacc, List.length_append]; omega
   have hnx : pre ++ flB dirB ds (j + 1) = acc ++ ([32, 64] ++ dn ++ ga) := by rw [hfn, ← hacc]; simp only [List.append_assoc]
   rw [hacc]; have HNX := hid hnx; have HREC := hid hrec; have HX := hid hX; have HW4 := hid hw4; have HO4 := hid (HP.out.trans o4); have HX4 := hid hx4; clear hnx hrec hX hw4 o4 hx4 hacc hfn hfl hfl2 hdb hl0 hga hdn hl2 hga2 hr hc
   go_upto_region 15 with (fail)
   rw [HX.out, HW4.out]; clear e0 e1 HX HW4; refine wp_region_steps 9 (by kernel_rfl) rfl (by kernel_rfl) [some 44, some 45, some 46, some 47, some 48, some 49, some 50, some 51, some 52] rfl rfl (fun _ => False) [(fun v _ => v = (.string ⟨acc.toArray⟩)), (fun v _ => v = (.pointer (some ⟨X, 0, none⟩))), (fun v _ => v = (.string ⟨dn.toArray⟩)), (fun v _ => v = (.string (⟨#[32, 64]⟩ ++ ⟨dn.toArray⟩))), (fun v _ => v = (.pointer (some ⟨X, 1, none⟩))), (fun v _ => v = (.slice a2 l2 c2)), (fun v _ => v = (.string ⟨ga.toArray⟩)), (fun v _ => v = (.string (⟨#[32, 64]⟩ ++ ⟨dn.toArray⟩ ++ ⟨ga.toArray⟩))), (fun v _ => v = (.string (⟨acc.toArray⟩ ++ (⟨#[32, 64]⟩ ++ ⟨dn.toArray⟩ ++ ⟨ga.toArray⟩))))] rfl ⟨?_, ?_, ?_, ?_, ?_, ?_, ?_, ?_, ?_, trivial⟩ _ rfl ⟨?_, ?_, ?_, ?_, ?_, ?_, ?_, ?_, ?_, trivial⟩ ?_
   iterate 9 exact Stable.is _ _
   ·intro x wx ox hN TT HTT; unfold StepTo; simp only [putAll, Act.put, zA, zB, zC]; clear hN
    go_wp2_with fail
    exact ⟨rfl, _, rfl, HTT.out _ _ rfl oR⟩
   ·intro x wx ox hN TT HTT; unfold StepTo; simp only [putAll, Act.put, zA, zB, zC]; clear hN
    go_wp2_with fail
    exact ⟨rfl, _, rfl, HTT.out _ _ rfl oR⟩
   ·intro x wx ox hN TT HTT; unfold StepTo; simp only [putAll, Act.put, zA, zB, zC, eI (hN.1 rfl)]; clear hN; obtain ⟨x0, x1, -⟩ := boxN2 (((((Only.refl (fun _ => False) w4).drew).trans ox).block X (gE HX4.out).1 (fun h => h)).trans HX4.out)
    go_wp2_with fail
    exact ⟨rfl, _, rfl, HTT.out _ _ rfl oR⟩
   ·intro x wx ox hN TT HTT; unfold StepTo; simp only [putAll, Act.put, zA, zB, zC, eI (hN.1 rfl)]; clear hN
    go_wp2_with fail
    exact ⟨rfl, _, rfl, HTT.out _ _ rfl oR⟩
   ·intro x wx ox hN TT HTT; unfold StepTo; simp only [putAll, Act.put, zA, zB, zC]; clear hN
    go_wp2_with fail
    exact ⟨rfl, _, rfl, HTT.out _ _ rfl oR⟩
   ·intro x wx ox hN TT HTT; unfold StepTo; simp only [putAll, Act.put, zA, zB, zC, eI (hN.1 rfl)]; clear hN; obtain ⟨x0, x1, -⟩ := boxN2 (((((Only.refl (fun _ => False) w4).drew).trans ox).block X (gE HX4.out).1 (fun h => h)).trans HX4.out)
    go_wp2_with fail
    exact ⟨rfl, _, rfl, HTT.out _ _ rfl oR⟩
   ·intro x wx ox hN TT HTT; unfold StepTo; simp only [putAll, Act.put, zA, zB, zC, eI (hN.1 rfl)]; clear hN; have J := hid (HREC.out wx ((HO4.out.drew).trans ox))
    go_wp2_with fail
    refine J.out.mono ?_
    rintro e w6 ⟨rfl, o6⟩; have O6 := hid o6; clear o6
    go_wp2_with fail
    exact ⟨rfl, _, rfl, HTT.out _ _ rfl (O6.out)⟩
   ·intro x wx ox hN TT HTT; unfold StepTo; simp only [putAll, Act.put, zA, zB, zC, eI (hN.1 rfl), eI (hN.2.1 rfl)]; clear hN
    go_wp2_with fail
    exact ⟨rfl, _, rfl, HTT.out _ _ rfl oR⟩
   ·intro x wx ox hN TT HTT; unfold StepTo; simp only [putAll, Act.put, zA, zB, zC, eI (hN.1 rfl), eI (hN.2.1 rfl)]; clear hN
    go_wp2_with fail
    exact ⟨rfl, _, rfl, HTT.out _ _ rfl oR⟩
   intro xz wxz oxz hN; simp only [putAll, Act.put, zA, zB, zC, eI hN.1, eI hN.2.1, eI hN.2.2.1, eI hN.2.2.2.1, eI hN.2.2.2.2.1, eI hN.2.2.2.2.2.1, eI hN.2.2.2.2.2.2.1, eI hN.2.2.2.2.2.2.2.1, eI hN.2.2.2.2.2.2.2.2.1]; clear hN; have HO9 := hid ((HO4.out.drew).trans oxz); clear oxz HO4 HX4
   go_wp2_with fail
   go_roundw
   case rel => exact ⟨j + 1, by simp, by omega, by rw [HNX.out]; simp only [← cat_list], HO9⟩
   case measure => simp [intOf]; omega
  ·have t1 : decide ((j : Int) < (LD : Int)) = false := decide_eq_false (by omega); have hjL : j = LD := by omega
   subst hjL; obtain ⟨acc, hacc⟩ := eX (pre ++ flB dirB ds j); have hal : acc.length ≤ 1000000000000 := by have := HL0.out; rw [← hacc, List.length_append]; omega
   obtain ⟨c0, c1, c2, c3, c4, c5, c6, -⟩ := boxN7 ((HP.out.block bA (gE HC.out).1 (fun h => h)).trans HC.out)
   by_cases hs0 : sub = []
   ·have hRf : acc = R := by rw [← HR.out, if_pos hs0, ren_nil, List.append_nil, hacc]
    have hL0 : LS = 0 := by rw [← HLS.out, hs0]; rfl
    rw [hacc, hRf]; have HOF := hid (HOB.out.trans HP.out); clear hacc hRf hal hfl hs0 c0 c1 c2 c3 c4 c5 HLS HSA; subst hL0
    go_wp2_with fail
    clear c6
    go_ret
    exact ⟨rfl, HOF.out⟩
   ·have hgsub : GoodS d sub := by
     rcases HCASE.out with ⟨_, _, _, _, _, h⟩ | ⟨_, _, _, _, _, _, h⟩ | ⟨_, _, _, _, _, h⟩
     ·exact h.resolve_left hs0
     ·exact absurd h hs0
     ·exact h
    have hLp : 0 < LS := by rw [← HLS.out]; exact List.length_pos_iff.2 hs0
    have hsl : (ren (setI sub)).length ≤ 1000000000000 := by have := HL0.out; rw [if_neg hs0] at this; omega
    have J := hid (HSA.out hgsub hsl wr (HOB.out.trans HP.out)); have hRf : R = acc ++ ren (setI sub) := by rw [← HR.out, if_neg hs0, hacc]
    obtain ⟨st, hst⟩ := eX (ren (setI sub)); rw [hst] at J hsl hRf; rw [hacc]; have HRF := hid hRf; have t2 : decide ((LS : Int) > 0) = true := decide_eq_true (by omega); have HP2 := hid (HOB.out.trans HP.out); clear hacc hRf hst hfl hs0 hgsub c0 c1 c2 c3 c4 c5
    go_wp2_with fail
    refine J.out.mono ?_
    rintro e w6 ⟨rfl, o6⟩; have HOF := hid (HP2.out.trans o6); clear o6 c6
    go_wp2_with fail
    go_ret
    rw [HRF.out, ← cat_list]; exact ⟨rfl, HOF.out⟩
theorem psetC_all : ∀ d, PSetC d
 | 0 => fun l hg => hg.elim
 | d + 1 => pset_of d (psel_of d (psetC_all d))
end Go.Proofs.YtnkpoddbbdmipaaGreatDoor
