/- The document's Same, of selections. -/
import Derived.Test.YtgephneppgcnlaaDoorSmr
namespace Go.Proofs.YtgephneppgcnlaaDoor
open Go Go.RowKit
set_option linter.unusedVariables false
set_option linter.unusedSimpArgs false

theorem cells7_of {w : World} {g p : Nat} {x0 x1 x2 x3 x4 x5 x6 : Value} (h : ∀ j q, ([x0, x1, x2, x3, x4, x5, x6] : List Value)[j]? = some q → w.cell? ⟨g, p + j, none⟩ = some q) : w.cell? ⟨g, p, none⟩ = some x0 ∧ w.cell? ⟨g, p + 1, none⟩ = some x1 ∧ w.cell? ⟨g, p + 2, none⟩ = some x2 ∧ w.cell? ⟨g, p + 3, none⟩ = some x3 ∧ w.cell? ⟨g, p + 4, none⟩ = some x4 ∧ w.cell? ⟨g, p + 5, none⟩ = some x5 ∧ w.cell? ⟨g, p + 6, none⟩ = some x6 :=
  ⟨h 0 _ rfl, h 1 _ rfl, h 2 _ rfl, h 3 _ rfl, h 4 _ rfl, h 5 _ rfl, h 6 _ rfl⟩
theorem cells2_of {w : World} {g p : Nat} {x0 x1 : Value} (h : ∀ j q, ([x0, x1] : List Value)[j]? = some q → w.cell? ⟨g, p + j, none⟩ = some q) : w.cell? ⟨g, p, none⟩ = some x0 ∧ w.cell? ⟨g, p + 1, none⟩ = some x1 := ⟨h 0 _ rfl, h 1 _ rfl⟩
theorem sizeOf_sub {l : List SL} {k : Nat} {al nm on_ : List UInt8} {gs : List AR} {ds : List DR} {sub : List SL} {i : Nat} {h : i < l.length} (e : l[i] = .mk k al nm on_ gs ds sub) : SizeOf.sizeOf sub < SizeOf.sizeOf l := by
  have := List.sizeOf_lt_of_mem (List.getElem_mem h)
  rw [e, SL.mk.sizeOf_spec] at this; omega
def SameS (z : Nat) : Prop := ∀ (l : List SL), SizeOf.sizeOf l ≤ z → ∀ (G G' : Nat → Prop) (w : World) (v u : Value), CellAt w G (.row 7 (l.map selC)) v → CellAt w G' (.row 7 (l.map selC)) u →
    Calls Tryd.prog 34 #[v, u] w (fun e w' => e = .returned (.bool true) ∧ Only (fun _ => False) w w')
set_option maxRecDepth 100000 in
set_option maxHeartbeats 16000000 in
theorem sameS_step (z : Nat) (ih : SameS z) : SameS (z + 1) := by
  intro l hz G G' w v u h h'
  obtain ⟨a, c, rfl, k1, k2, k3⟩ := rows_at h
  obtain ⟨a', c', rfl, k1', k2', k3'⟩ := rows_at h'
  obtain ⟨L, hL⟩ : ∃ L, l.length = L := ⟨_, rfl⟩
  rw [hL] at k1 k1' ⊢
  have HL := Lib.hid hL; have HK := Lib.hid k3; have HK' := Lib.hid k3'; have IH := Lib.hid ih; have HZ := Lib.hid hz
  clear hL k3 k3' h h' ih hz
  go_enter Tryd.func34, Tryd.ntmps34
  go_wp2_with fail
  go_loopw [5] (fun v wr => ∃ i : Nat, v = .int .i64 (i : Int) ∧ i ≤ L ∧ Hid (Only (fun _ => False) w wr)) (fun v _ => L - (intOf v).toNat)
  case atStart => exact ⟨0, by simp, by omega, Lib.hid (Only.refl _ _)⟩
  case round =>
    obtain ⟨i, rfl, hi, HO⟩ := hrel
    by_cases hlt : i < L
    · have t3 : decide ((i : Int) < (L : Int)) = true := by simpa using hlt
      have hi0 : (0 : Int) ≤ (i : Int) := by omega
      have hi1 : (i : Int) < (L : Int) := by omega
      have hil : i < l.length := by rw [HL.out]; exact hlt
      obtain ⟨g, o, xs, rfl, -, q1, q2⟩ := HK.out i hil
      obtain ⟨g', o', xs', rfl, -, q1', q2'⟩ := HK'.out i hil
      obtain ⟨k, al, nm, on_, gs, ds, sub, hsl⟩ : ∃ k al nm on_ gs ds sub, l[i] = .mk k al nm on_ gs ds sub := by
        cases hq : l[i] with
        | mk k al nm on_ gs ds sub => exact ⟨_, _, _, _, _, _, _, rfl⟩
      have hsz := sizeOf_sub hsl
      rw [hsl] at q2 q2'
      obtain ⟨gv, dv, sv, rfl, hg, hd, hs⟩ := sel_cells q2
      obtain ⟨gv', dv', sv', rfl, hg', hd', hs'⟩ := sel_cells q2'
      have hga := fun (wx : World) (ox : Only (fun _ => False) w wx) => sameArgs_true gs G G' wx _ _ (CellAt.only ox (fun _ _ h => h) _ _ hg) (CellAt.only ox (fun _ _ h => h) _ _ hg')
      have hsa := fun (wx : World) (ox : Only (fun _ => False) w wx) => IH.out sub (by have := HZ.out; omega) G G' wx _ _ (CellAt.only ox (fun _ _ h => h) _ _ hs) (CellAt.only ox (fun _ _ h => h) _ _ hs')
      obtain ⟨ag, cg, rfl, -, -, -⟩ := rows_at hg
      obtain ⟨ag', cg', rfl, -, -, -⟩ := rows_at hg'
      obtain ⟨ad, cd, rfl, n1, n2, n3⟩ := rows_at hd
      obtain ⟨ad', cd', rfl, n1', n2', n3'⟩ := rows_at hd'
      obtain ⟨as_, cs_, rfl, -, -, -⟩ := rows_at hs
      obtain ⟨as', cs', rfl, -, -, -⟩ := rows_at hs'
      obtain ⟨LG, hLG⟩ : ∃ L, gs.length = L := ⟨_, rfl⟩
      obtain ⟨LD, hLD⟩ : ∃ L, ds.length = L := ⟨_, rfl⟩
      obtain ⟨LS, hLS⟩ : ∃ L, sub.length = L := ⟨_, rfl⟩
      rw [hLG] at hga q1 q1'
      rw [hLD] at q1 q1' n1 n1'
      rw [hLS] at hsa q1 q1'
      obtain ⟨e0, e1, e2, e3, e4, e5, e6⟩ := cells7_of q1
      obtain ⟨f0, f1, f2, f3, f4, f5, f6⟩ := cells7_of q1'
      have e0 := keepc HO.out e0; have e1 := keepc HO.out e1; have e2 := keepc HO.out e2; have e3 := keepc HO.out e3; have e4 := keepc HO.out e4; have e5 := keepc HO.out e5; have e6 := keepc HO.out e6
      have f0 := keepc HO.out f0; have f1 := keepc HO.out f1; have f2 := keepc HO.out f2; have f3 := keepc HO.out f3; have f4 := keepc HO.out f4; have f5 := keepc HO.out f5; have f6 := keepc HO.out f6
      have f0 := keepc ((Only.refl _ wr).alloc (.cells #[.int .u8 (k : Int), .string ⟨al.toArray⟩, .string ⟨nm.toArray⟩, .string ⟨on_.toArray⟩, .slice ag LG cg, .slice ad LD cd, .slice as_ LS cs_] 51)) f0
      have f1 := keepc ((Only.refl _ wr).alloc (.cells #[.int .u8 (k : Int), .string ⟨al.toArray⟩, .string ⟨nm.toArray⟩, .string ⟨on_.toArray⟩, .slice ag LG cg, .slice ad LD cd, .slice as_ LS cs_] 51)) f1
      have f2 := keepc ((Only.refl _ wr).alloc (.cells #[.int .u8 (k : Int), .string ⟨al.toArray⟩, .string ⟨nm.toArray⟩, .string ⟨on_.toArray⟩, .slice ag LG cg, .slice ad LD cd, .slice as_ LS cs_] 51)) f2
      have f3 := keepc ((Only.refl _ wr).alloc (.cells #[.int .u8 (k : Int), .string ⟨al.toArray⟩, .string ⟨nm.toArray⟩, .string ⟨on_.toArray⟩, .slice ag LG cg, .slice ad LD cd, .slice as_ LS cs_] 51)) f3
      have f4 := keepc ((Only.refl _ wr).alloc (.cells #[.int .u8 (k : Int), .string ⟨al.toArray⟩, .string ⟨nm.toArray⟩, .string ⟨on_.toArray⟩, .slice ag LG cg, .slice ad LD cd, .slice as_ LS cs_] 51)) f4
      have f5 := keepc ((Only.refl _ wr).alloc (.cells #[.int .u8 (k : Int), .string ⟨al.toArray⟩, .string ⟨nm.toArray⟩, .string ⟨on_.toArray⟩, .slice ag LG cg, .slice ad LD cd, .slice as_ LS cs_] 51)) f5
      have f6 := keepc ((Only.refl _ wr).alloc (.cells #[.int .u8 (k : Int), .string ⟨al.toArray⟩, .string ⟨nm.toArray⟩, .string ⟨on_.toArray⟩, .slice ag LG cg, .slice ad LD cd, .slice as_ LS cs_] 51)) f6
      obtain ⟨wb, hwb⟩ : ∃ wb, (wr.alloc (.cells #[.int .u8 (k : Int), .string ⟨al.toArray⟩, .string ⟨nm.toArray⟩, .string ⟨on_.toArray⟩, .slice ag LG cg, .slice ad LD cd, .slice as_ LS cs_] 51)).alloc (.cells #[.int .u8 (k : Int), .string ⟨al.toArray⟩, .string ⟨nm.toArray⟩, .string ⟨on_.toArray⟩, .slice ag' LG cg', .slice ad' LD cd', .slice as' LS cs'] 51) = wb := ⟨_, rfl⟩
      obtain ⟨wa, hwa⟩ : ∃ wa, wr.alloc (.cells #[.int .u8 (k : Int), .string ⟨al.toArray⟩, .string ⟨nm.toArray⟩, .string ⟨on_.toArray⟩, .slice ag LG cg, .slice ad LD cd, .slice as_ LS cs_] 51) = wa := ⟨_, rfl⟩
      have ob : Only (fun _ => False) wr wb := by rw [← hwb]; exact ((Only.refl _ wr).alloc _).alloc _
      obtain ⟨bA, hbA⟩ : ∃ b, wr.heap.size = b := ⟨_, rfl⟩
      obtain ⟨bB, hbB⟩ : ∃ b, bA + 1 = b := ⟨_, rfl⟩
      have hx1 : wb.heap[bA]? = some (.cells #[.int .u8 (k : Int), .string ⟨al.toArray⟩, .string ⟨nm.toArray⟩, .string ⟨on_.toArray⟩, .slice ag LG cg, .slice ad LD cd, .slice as_ LS cs_] 51 (0, 0)) := by rw [← hwb, ← hbA]; exact heap_old (heap_new wr _) _
      have hx2 : wb.heap[bB]? = some (.cells #[.int .u8 (k : Int), .string ⟨al.toArray⟩, .string ⟨nm.toArray⟩, .string ⟨on_.toArray⟩, .slice ag' LG cg', .slice ad' LD cd', .slice as' LS cs'] 51 (0, 0)) := by
        rw [← hwb, ← hbB, ← hbA]
        have := heap_new (wr.alloc (.cells #[.int .u8 (k : Int), .string ⟨al.toArray⟩, .string ⟨nm.toArray⟩, .string ⟨on_.toArray⟩, .slice ag LG cg, .slice ad LD cd, .slice as_ LS cs_] 51)) (.cells #[.int .u8 (k : Int), .string ⟨al.toArray⟩, .string ⟨nm.toArray⟩, .string ⟨on_.toArray⟩, .slice ag' LG cg', .slice ad' LD cd', .slice as' LS cs'] 51)
        rw [World.size_alloc] at this; exact this
      have hsa1 : wa.heap.size = bB := by rw [← hwa, World.size_alloc, hbA, hbB]
      rw [hwa] at hwb f0 f1 f2 f3 f4 f5 f6
      obtain ⟨c0, c1, c2, c3, c4, c5, c6, -⟩ := boxN7 hx1
      obtain ⟨d0, d1, d2, d3, d4, d5, d6, -⟩ := boxN7 hx2
      have HOB := Lib.hid (HO.out.trans ob)
      have HGA := Lib.hid (fun (wx : World) (ox : Only (fun _ => False) wb wx) => hga wx (HOB.out.trans ox))
      have HSA := Lib.hid (fun (wx : World) (ox : Only (fun _ => False) wb wx) => hsa wx (HOB.out.trans ox))
      have HND := Lib.hid n3; have HND' := Lib.hid n3'
      have HWA := Lib.hid hwa; have HWB := Lib.hid hwb; have HBA := Lib.hid hbA; have HSA1 := Lib.hid hsa1; have HLD := Lib.hid hLD
      have HC := Lib.hid (And.intro (c0) (And.intro (c1) (And.intro (c2) (And.intro (c3) (And.intro (c4) (And.intro (c5) (And.intro (c6) (And.intro (d0) (And.intro (d1) (And.intro (d2) (And.intro (d3) (And.intro (d4) (And.intro (d5) (d6))))))))))))))
      clear hga hsa n3 n3' hwa hwb hbA hbB hsa1 hLD hLG hLS hx1 hx2 ob hg hd hs hg' hd' hs' q1 q1' q2 q2' hsz hsl c0 c1 c2 c3 c4 c5 c6 d0 d1 d2 d3 d4 d5 d6
      go_upto_region 7 with (fail)
      rw [HWA.out, HBA.out]
      clear e0 e1 e2 e3 e4 e5 e6
      go_upto_region 8 with (fail)
      rw [HWB.out, HSA1.out]
      clear f0 f1 f2 f3 f4 f5 f6
      obtain ⟨c0, c1, c2, c3, c4, c5, c6, d0, d1, d2, d3, d4, d5, d6⟩ := HC.out
      go_wp2_with fail
      refine (HGA.out wb (Only.refl _ _)).mono ?_
      rintro e w6 ⟨rfl, o6⟩
      have c0 := keepc o6 c0
      have c1 := keepc o6 c1
      have c2 := keepc o6 c2
      have c3 := keepc o6 c3
      have c4 := keepc o6 c4
      have c5 := keepc o6 c5
      have c6 := keepc o6 c6
      have d0 := keepc o6 d0
      have d1 := keepc o6 d1
      have d2 := keepc o6 d2
      have d3 := keepc o6 d3
      have d4 := keepc o6 d4
      have d5 := keepc o6 d5
      have d6 := keepc o6 d6
      have HO6 := Lib.hid o6; clear o6
      go_wp2_with fail
      refine (HSA.out w6 HO6.out).mono ?_
      rintro e w7 ⟨rfl, o7⟩
      have c0 := keepc o7 c0
      have c1 := keepc o7 c1
      have c2 := keepc o7 c2
      have c3 := keepc o7 c3
      have c4 := keepc o7 c4
      have c5 := keepc o7 c5
      have c6 := keepc o7 c6
      have d0 := keepc o7 d0
      have d1 := keepc o7 d1
      have d2 := keepc o7 d2
      have d3 := keepc o7 d3
      have d4 := keepc o7 d4
      have d5 := keepc o7 d5
      have d6 := keepc o7 d6
      have HO7 := Lib.hid (HO6.out.trans o7); clear o7
      go_wp2_with fail
      clear c0 c1 c2 c3 c4 c5 c6 d0 d1 d2 d3 d4 d5 d6
      go_loopw [8] (fun v wr => ∃ j : Nat, v = .int .i64 (j : Int) ∧ j ≤ LD ∧ Hid (Only (fun _ => False) wb wr)) (fun v _ => LD - (intOf v).toNat)
      case atStart => exact ⟨0, by simp, by omega, HO7⟩
      case round =>
        clear HO7 HO6
        obtain ⟨j, rfl, hj, HP⟩ := hrel
        obtain ⟨c0, c1, c2, c3, c4, c5, c6, d0, d1, d2, d3, d4, d5, d6⟩ := HC.out
        have c5 := keepc HP.out c5
        have d5 := keepc HP.out d5
        clear c0 c1 c2 c3 c4 c6 d0 d1 d2 d3 d4 d6
        by_cases hltj : j < LD
        · have t4 : decide ((j : Int) < (LD : Int)) = true := by simpa using hltj
          have hj0 : (0 : Int) ≤ (j : Int) := by omega
          have hj1 : (j : Int) < (LD : Int) := by omega
          have hjl : j < ds.length := by rw [HLD.out]; exact hltj
          obtain ⟨gd, od, ys, rfl, -, p1, p2⟩ := HND.out j hjl
          obtain ⟨gd', od', ys', rfl, -, p1', p2'⟩ := HND'.out j hjl
          obtain ⟨av, rfl, ha⟩ := dir_cells p2
          obtain ⟨av', rfl, ha'⟩ := dir_cells p2'
          have hrec := fun (wx : World) (ox : Only (fun _ => False) w wx) => sameArgs_true _ G G' wx _ _ (CellAt.only ox (fun _ _ h => h) _ _ ha) (CellAt.only ox (fun _ _ h => h) _ _ ha')
          obtain ⟨ax, cx, rfl, -, -, -⟩ := rows_at ha
          obtain ⟨ax', cx', rfl, -, -, -⟩ := rows_at ha'
          obtain ⟨e0, e1⟩ := cells2_of p1
          obtain ⟨f0, f1⟩ := cells2_of p1'
          generalize ds[j].name = dn at *
          generalize ds[j].args.length = LX at *
          have oww : Only (fun _ => False) w wr := HOB.out.trans HP.out
          have HX := Lib.hid (fun (wx : World) (ox : Only (fun _ => False) wr.drew wx) => have o := (Only.refl _ wr).drew.trans ox; have ow := oww.trans o; And.intro (keepc o c5) (And.intro (keepc o d5) (And.intro (keepc ow e0) (And.intro (keepc ow e1) (And.intro (keepc ow f0) (keepc ow f1))))))
          have HREC := Lib.hid (fun (wx : World) (ox : Only (fun _ => False) wr.drew wx) => hrec wx (oww.trans ((Only.refl _ wr).drew.trans ox)))
          clear hrec p1 p1' p2 p2' ha ha' e0 e1 f0 f1 oww
          go_upto_region 13 with (fail)
          clear c5 d5
          refine wp_region_steps 28 (by kernel_rfl) rfl (by kernel_rfl) [some 86, some 87, some 88, some 89, some 90, some 91, some 92, some 93, some 94, some 95, some 96, some 97, some 98, some 99, some 100, some 101, some 102, some 103, some 104, some 105, some 106, some 107, some 108, some 109, some 110, some 111, some 112, some 113] rfl rfl (fun _ => False) [(fun v _ => v = (.pointer (some ⟨bA, 5, none⟩))), (fun v _ => v = (.slice (some ⟨gd, od, none⟩) LD cd)), (fun v _ => v = (.int .i64 (j : Int))), (fun v _ => v = (.pointer (some ⟨gd, od + j * 2, none⟩))), (fun v _ => v = (.pointer (some ⟨gd, od + j * 2, none⟩))), (fun v _ => v = (.string ⟨dn.toArray⟩)), (fun v _ => v = (.pointer (some ⟨bB, 5, none⟩))), (fun v _ => v = (.slice (some ⟨gd', od', none⟩) LD cd')), (fun v _ => v = (.int .i64 (j : Int))), (fun v _ => v = (.pointer (some ⟨gd', od' + j * 2, none⟩))), (fun v _ => v = (.pointer (some ⟨gd', od' + j * 2, none⟩))), (fun v _ => v = (.string ⟨dn.toArray⟩)), (fun v _ => v = (.bool false)), (fun v _ => v = (.bool false)), (fun v _ => v = (.pointer (some ⟨bA, 5, none⟩))), (fun v _ => v = (.slice (some ⟨gd, od, none⟩) LD cd)), (fun v _ => v = (.int .i64 (j : Int))), (fun v _ => v = (.pointer (some ⟨gd, od + j * 2, none⟩))), (fun v _ => v = (.pointer (some ⟨gd, od + j * 2 + 1, none⟩))), (fun v _ => v = (.slice ax LX cx)), (fun v _ => v = (.pointer (some ⟨bB, 5, none⟩))), (fun v _ => v = (.slice (some ⟨gd', od', none⟩) LD cd')), (fun v _ => v = (.int .i64 (j : Int))), (fun v _ => v = (.pointer (some ⟨gd', od' + j * 2, none⟩))), (fun v _ => v = (.pointer (some ⟨gd', od' + j * 2 + 1, none⟩))), (fun v _ => v = (.slice ax' LX cx')), (fun v _ => v = (.bool true)), (fun v _ => v = (.bool false))] rfl ⟨?_, ?_, ?_, ?_, ?_, ?_, ?_, ?_, ?_, ?_, ?_, ?_, ?_, ?_, ?_, ?_, ?_, ?_, ?_, ?_, ?_, ?_, ?_, ?_, ?_, ?_, ?_, ?_, trivial⟩ _ rfl ⟨?_, ?_, ?_, ?_, ?_, ?_, ?_, ?_, ?_, ?_, ?_, ?_, ?_, ?_, ?_, ?_, ?_, ?_, ?_, ?_, ?_, ?_, ?_, ?_, ?_, ?_, ?_, ?_, trivial⟩ ?_
          · exact Stable.is _ _
          · exact Stable.is _ _
          · exact Stable.is _ _
          · exact Stable.is _ _
          · exact Stable.is _ _
          · exact Stable.is _ _
          · exact Stable.is _ _
          · exact Stable.is _ _
          · exact Stable.is _ _
          · exact Stable.is _ _
          · exact Stable.is _ _
          · exact Stable.is _ _
          · exact Stable.is _ _
          · exact Stable.is _ _
          · exact Stable.is _ _
          · exact Stable.is _ _
          · exact Stable.is _ _
          · exact Stable.is _ _
          · exact Stable.is _ _
          · exact Stable.is _ _
          · exact Stable.is _ _
          · exact Stable.is _ _
          · exact Stable.is _ _
          · exact Stable.is _ _
          · exact Stable.is _ _
          · exact Stable.is _ _
          · exact Stable.is _ _
          · exact Stable.is _ _
          · intro x wx ox hN TT HTT
            clear hN
            unfold StepTo
            simp only [putAll, Act.put, List.setIfInBounds_toArray, List.set_cons_succ, List.set_cons_zero]
            go_wp2_with fail
            exact ⟨rfl, _, rfl, HTT.out _ _ (rfl) (Only.refl _ _)⟩
          · intro x wx ox hN TT HTT
            have r86 : x 0 = (.pointer (some ⟨bA, 5, none⟩)) := hN.1 rfl
            clear hN
            unfold StepTo
            simp only [putAll, Act.put, List.setIfInBounds_toArray, List.set_cons_succ, List.set_cons_zero, r86]
            clear r86
            obtain ⟨m1, m2, m3, m4, m5, m6⟩ := HX.out wx ox
            go_wp2_with fail
            exact ⟨rfl, _, rfl, HTT.out _ _ (rfl) (Only.refl _ _)⟩
          · intro x wx ox hN TT HTT
            clear hN
            unfold StepTo
            simp only [putAll, Act.put, List.setIfInBounds_toArray, List.set_cons_succ, List.set_cons_zero]
            go_wp2_with fail
            exact ⟨rfl, _, rfl, HTT.out _ _ (rfl) (Only.refl _ _)⟩
          · intro x wx ox hN TT HTT
            have r87 : x 1 = (.slice (some ⟨gd, od, none⟩) LD cd) := hN.1 rfl
            have r88 : x 2 = (.int .i64 (j : Int)) := hN.2.1 rfl
            clear hN
            unfold StepTo
            simp only [putAll, Act.put, List.setIfInBounds_toArray, List.set_cons_succ, List.set_cons_zero, r87, r88]
            clear r87 r88
            go_wp2_with fail
            exact ⟨rfl, _, rfl, HTT.out _ _ (rfl) (Only.refl _ _)⟩
          · intro x wx ox hN TT HTT
            have r89 : x 3 = (.pointer (some ⟨gd, od + j * 2, none⟩)) := hN.1 rfl
            clear hN
            unfold StepTo
            simp only [putAll, Act.put, List.setIfInBounds_toArray, List.set_cons_succ, List.set_cons_zero, r89]
            clear r89
            go_wp2_with fail
            exact ⟨rfl, _, rfl, HTT.out _ _ (rfl) (Only.refl _ _)⟩
          · intro x wx ox hN TT HTT
            have r90 : x 4 = (.pointer (some ⟨gd, od + j * 2, none⟩)) := hN.1 rfl
            clear hN
            unfold StepTo
            simp only [putAll, Act.put, List.setIfInBounds_toArray, List.set_cons_succ, List.set_cons_zero, r90]
            clear r90
            obtain ⟨m1, m2, m3, m4, m5, m6⟩ := HX.out wx ox
            go_wp2_with fail
            exact ⟨rfl, _, rfl, HTT.out _ _ (rfl) (Only.refl _ _)⟩
          · intro x wx ox hN TT HTT
            clear hN
            unfold StepTo
            simp only [putAll, Act.put, List.setIfInBounds_toArray, List.set_cons_succ, List.set_cons_zero]
            go_wp2_with fail
            exact ⟨rfl, _, rfl, HTT.out _ _ (rfl) (Only.refl _ _)⟩
          · intro x wx ox hN TT HTT
            have r92 : x 6 = (.pointer (some ⟨bB, 5, none⟩)) := hN.1 rfl
            clear hN
            unfold StepTo
            simp only [putAll, Act.put, List.setIfInBounds_toArray, List.set_cons_succ, List.set_cons_zero, r92]
            clear r92
            obtain ⟨m1, m2, m3, m4, m5, m6⟩ := HX.out wx ox
            go_wp2_with fail
            exact ⟨rfl, _, rfl, HTT.out _ _ (rfl) (Only.refl _ _)⟩
          · intro x wx ox hN TT HTT
            clear hN
            unfold StepTo
            simp only [putAll, Act.put, List.setIfInBounds_toArray, List.set_cons_succ, List.set_cons_zero]
            go_wp2_with fail
            exact ⟨rfl, _, rfl, HTT.out _ _ (rfl) (Only.refl _ _)⟩
          · intro x wx ox hN TT HTT
            have r93 : x 7 = (.slice (some ⟨gd', od', none⟩) LD cd') := hN.1 rfl
            have r94 : x 8 = (.int .i64 (j : Int)) := hN.2.1 rfl
            clear hN
            unfold StepTo
            simp only [putAll, Act.put, List.setIfInBounds_toArray, List.set_cons_succ, List.set_cons_zero, r93, r94]
            clear r93 r94
            go_wp2_with fail
            exact ⟨rfl, _, rfl, HTT.out _ _ (rfl) (Only.refl _ _)⟩
          · intro x wx ox hN TT HTT
            have r95 : x 9 = (.pointer (some ⟨gd', od' + j * 2, none⟩)) := hN.1 rfl
            clear hN
            unfold StepTo
            simp only [putAll, Act.put, List.setIfInBounds_toArray, List.set_cons_succ, List.set_cons_zero, r95]
            clear r95
            go_wp2_with fail
            exact ⟨rfl, _, rfl, HTT.out _ _ (rfl) (Only.refl _ _)⟩
          · intro x wx ox hN TT HTT
            have r96 : x 10 = (.pointer (some ⟨gd', od' + j * 2, none⟩)) := hN.1 rfl
            clear hN
            unfold StepTo
            simp only [putAll, Act.put, List.setIfInBounds_toArray, List.set_cons_succ, List.set_cons_zero, r96]
            clear r96
            obtain ⟨m1, m2, m3, m4, m5, m6⟩ := HX.out wx ox
            go_wp2_with fail
            exact ⟨rfl, _, rfl, HTT.out _ _ (rfl) (Only.refl _ _)⟩
          · intro x wx ox hN TT HTT
            have r91 : x 5 = (.string ⟨dn.toArray⟩) := hN.1 rfl
            have r97 : x 11 = (.string ⟨dn.toArray⟩) := hN.2.1 rfl
            clear hN
            unfold StepTo
            simp only [putAll, Act.put, List.setIfInBounds_toArray, List.set_cons_succ, List.set_cons_zero, r91, r97]
            clear r91 r97
            go_wp2_with fail
            exact ⟨rfl, _, rfl, HTT.out _ _ (rfl) (Only.refl _ _)⟩
          · intro x wx ox hN TT HTT
            have r98 : x 12 = (.bool false) := hN.1 rfl
            clear hN
            unfold StepTo
            simp only [putAll, Act.put, List.setIfInBounds_toArray, List.set_cons_succ, List.set_cons_zero, r98]
            clear r98
            go_wp2_with fail
            exact ⟨rfl, _, rfl, HTT.out _ _ (rfl) (Only.refl _ _)⟩
          · intro x wx ox hN TT HTT
            have r99 : x 13 = (.bool false) := hN.1 rfl
            clear hN
            unfold StepTo
            simp only [putAll, Act.put, List.setIfInBounds_toArray, List.set_cons_succ, List.set_cons_zero, r99]
            clear r99
            go_wp2_with fail
            exact ⟨rfl, _, rfl, HTT.out _ _ (rfl) (Only.refl _ _)⟩
          · intro x wx ox hN TT HTT
            have r100 : x 14 = (.pointer (some ⟨bA, 5, none⟩)) := hN.1 rfl
            have r99 : x 13 = (.bool false) := hN.2.1 rfl
            clear hN
            unfold StepTo
            simp only [putAll, Act.put, List.setIfInBounds_toArray, List.set_cons_succ, List.set_cons_zero, r100, r99]
            clear r100 r99
            obtain ⟨m1, m2, m3, m4, m5, m6⟩ := HX.out wx ox
            go_wp2_with fail
            exact ⟨rfl, _, rfl, HTT.out _ _ (rfl) (Only.refl _ _)⟩
          · intro x wx ox hN TT HTT
            have r99 : x 13 = (.bool false) := hN.1 rfl
            clear hN
            unfold StepTo
            simp only [putAll, Act.put, List.setIfInBounds_toArray, List.set_cons_succ, List.set_cons_zero, r99]
            clear r99
            go_wp2_with fail
            exact ⟨rfl, _, rfl, HTT.out _ _ (rfl) (Only.refl _ _)⟩
          · intro x wx ox hN TT HTT
            have r101 : x 15 = (.slice (some ⟨gd, od, none⟩) LD cd) := hN.1 rfl
            have r102 : x 16 = (.int .i64 (j : Int)) := hN.2.1 rfl
            have r99 : x 13 = (.bool false) := hN.2.2.1 rfl
            clear hN
            unfold StepTo
            simp only [putAll, Act.put, List.setIfInBounds_toArray, List.set_cons_succ, List.set_cons_zero, r101, r102, r99]
            clear r101 r102 r99
            go_wp2_with fail
            exact ⟨rfl, _, rfl, HTT.out _ _ (rfl) (Only.refl _ _)⟩
          · intro x wx ox hN TT HTT
            have r103 : x 17 = (.pointer (some ⟨gd, od + j * 2, none⟩)) := hN.1 rfl
            have r99 : x 13 = (.bool false) := hN.2.1 rfl
            clear hN
            unfold StepTo
            simp only [putAll, Act.put, List.setIfInBounds_toArray, List.set_cons_succ, List.set_cons_zero, r103, r99]
            clear r103 r99
            go_wp2_with fail
            exact ⟨rfl, _, rfl, HTT.out _ _ (rfl) (Only.refl _ _)⟩
          · intro x wx ox hN TT HTT
            have r104 : x 18 = (.pointer (some ⟨gd, od + j * 2 + 1, none⟩)) := hN.1 rfl
            have r99 : x 13 = (.bool false) := hN.2.1 rfl
            clear hN
            unfold StepTo
            simp only [putAll, Act.put, List.setIfInBounds_toArray, List.set_cons_succ, List.set_cons_zero, r104, r99]
            clear r104 r99
            obtain ⟨m1, m2, m3, m4, m5, m6⟩ := HX.out wx ox
            go_wp2_with fail
            exact ⟨rfl, _, rfl, HTT.out _ _ (rfl) (Only.refl _ _)⟩
          · intro x wx ox hN TT HTT
            have r99 : x 13 = (.bool false) := hN.1 rfl
            clear hN
            unfold StepTo
            simp only [putAll, Act.put, List.setIfInBounds_toArray, List.set_cons_succ, List.set_cons_zero, r99]
            clear r99
            go_wp2_with fail
            exact ⟨rfl, _, rfl, HTT.out _ _ (rfl) (Only.refl _ _)⟩
          · intro x wx ox hN TT HTT
            have r106 : x 20 = (.pointer (some ⟨bB, 5, none⟩)) := hN.1 rfl
            have r99 : x 13 = (.bool false) := hN.2.1 rfl
            clear hN
            unfold StepTo
            simp only [putAll, Act.put, List.setIfInBounds_toArray, List.set_cons_succ, List.set_cons_zero, r106, r99]
            clear r106 r99
            obtain ⟨m1, m2, m3, m4, m5, m6⟩ := HX.out wx ox
            go_wp2_with fail
            exact ⟨rfl, _, rfl, HTT.out _ _ (rfl) (Only.refl _ _)⟩
          · intro x wx ox hN TT HTT
            have r99 : x 13 = (.bool false) := hN.1 rfl
            clear hN
            unfold StepTo
            simp only [putAll, Act.put, List.setIfInBounds_toArray, List.set_cons_succ, List.set_cons_zero, r99]
            clear r99
            go_wp2_with fail
            exact ⟨rfl, _, rfl, HTT.out _ _ (rfl) (Only.refl _ _)⟩
          · intro x wx ox hN TT HTT
            have r107 : x 21 = (.slice (some ⟨gd', od', none⟩) LD cd') := hN.1 rfl
            have r108 : x 22 = (.int .i64 (j : Int)) := hN.2.1 rfl
            have r99 : x 13 = (.bool false) := hN.2.2.1 rfl
            clear hN
            unfold StepTo
            simp only [putAll, Act.put, List.setIfInBounds_toArray, List.set_cons_succ, List.set_cons_zero, r107, r108, r99]
            clear r107 r108 r99
            go_wp2_with fail
            exact ⟨rfl, _, rfl, HTT.out _ _ (rfl) (Only.refl _ _)⟩
          · intro x wx ox hN TT HTT
            have r109 : x 23 = (.pointer (some ⟨gd', od' + j * 2, none⟩)) := hN.1 rfl
            have r99 : x 13 = (.bool false) := hN.2.1 rfl
            clear hN
            unfold StepTo
            simp only [putAll, Act.put, List.setIfInBounds_toArray, List.set_cons_succ, List.set_cons_zero, r109, r99]
            clear r109 r99
            go_wp2_with fail
            exact ⟨rfl, _, rfl, HTT.out _ _ (rfl) (Only.refl _ _)⟩
          · intro x wx ox hN TT HTT
            have r110 : x 24 = (.pointer (some ⟨gd', od' + j * 2 + 1, none⟩)) := hN.1 rfl
            have r99 : x 13 = (.bool false) := hN.2.1 rfl
            clear hN
            unfold StepTo
            simp only [putAll, Act.put, List.setIfInBounds_toArray, List.set_cons_succ, List.set_cons_zero, r110, r99]
            clear r110 r99
            obtain ⟨m1, m2, m3, m4, m5, m6⟩ := HX.out wx ox
            go_wp2_with fail
            exact ⟨rfl, _, rfl, HTT.out _ _ (rfl) (Only.refl _ _)⟩
          · intro x wx ox hN TT HTT
            have r105 : x 19 = (.slice ax LX cx) := hN.1 rfl
            have r111 : x 25 = (.slice ax' LX cx') := hN.2.1 rfl
            have r99 : x 13 = (.bool false) := hN.2.2.1 rfl
            clear hN
            unfold StepTo
            simp only [putAll, Act.put, List.setIfInBounds_toArray, List.set_cons_succ, List.set_cons_zero, r105, r111, r99]
            clear r105 r111 r99
            have ht := HREC.out wx ox
            have HT := Lib.hid ht; clear ht
            go_wp2_with fail
            refine HT.out.mono ?_
            rintro e w6 ⟨rfl, o6⟩
            have O6 := Lib.hid o6; clear o6
            go_wp2_with fail
            exact ⟨rfl, _, rfl, HTT.out _ _ (rfl) (O6.out)⟩
          · intro x wx ox hN TT HTT
            have r112 : x 26 = (.bool true) := hN.1 rfl
            have r99 : x 13 = (.bool false) := hN.2.1 rfl
            clear hN
            unfold StepTo
            simp only [putAll, Act.put, List.setIfInBounds_toArray, List.set_cons_succ, List.set_cons_zero, r112, r99]
            clear r112 r99
            go_wp2_with fail
            exact ⟨rfl, _, rfl, HTT.out _ _ (rfl) (Only.refl _ _)⟩
          intro xz wxz oxz hN
          have r86 : xz 0 = (.pointer (some ⟨bA, 5, none⟩)) := hN.1
          have r87 : xz 1 = (.slice (some ⟨gd, od, none⟩) LD cd) := hN.2.1
          have r88 : xz 2 = (.int .i64 (j : Int)) := hN.2.2.1
          have r89 : xz 3 = (.pointer (some ⟨gd, od + j * 2, none⟩)) := hN.2.2.2.1
          have r90 : xz 4 = (.pointer (some ⟨gd, od + j * 2, none⟩)) := hN.2.2.2.2.1
          have r91 : xz 5 = (.string ⟨dn.toArray⟩) := hN.2.2.2.2.2.1
          have r92 : xz 6 = (.pointer (some ⟨bB, 5, none⟩)) := hN.2.2.2.2.2.2.1
          have r93 : xz 7 = (.slice (some ⟨gd', od', none⟩) LD cd') := hN.2.2.2.2.2.2.2.1
          have r94 : xz 8 = (.int .i64 (j : Int)) := hN.2.2.2.2.2.2.2.2.1
          have r95 : xz 9 = (.pointer (some ⟨gd', od' + j * 2, none⟩)) := hN.2.2.2.2.2.2.2.2.2.1
          have r96 : xz 10 = (.pointer (some ⟨gd', od' + j * 2, none⟩)) := hN.2.2.2.2.2.2.2.2.2.2.1
          have r97 : xz 11 = (.string ⟨dn.toArray⟩) := hN.2.2.2.2.2.2.2.2.2.2.2.1
          have r98 : xz 12 = (.bool false) := hN.2.2.2.2.2.2.2.2.2.2.2.2.1
          have r99 : xz 13 = (.bool false) := hN.2.2.2.2.2.2.2.2.2.2.2.2.2.1
          have r100 : xz 14 = (.pointer (some ⟨bA, 5, none⟩)) := hN.2.2.2.2.2.2.2.2.2.2.2.2.2.2.1
          have r101 : xz 15 = (.slice (some ⟨gd, od, none⟩) LD cd) := hN.2.2.2.2.2.2.2.2.2.2.2.2.2.2.2.1
          have r102 : xz 16 = (.int .i64 (j : Int)) := hN.2.2.2.2.2.2.2.2.2.2.2.2.2.2.2.2.1
          have r103 : xz 17 = (.pointer (some ⟨gd, od + j * 2, none⟩)) := hN.2.2.2.2.2.2.2.2.2.2.2.2.2.2.2.2.2.1
          have r104 : xz 18 = (.pointer (some ⟨gd, od + j * 2 + 1, none⟩)) := hN.2.2.2.2.2.2.2.2.2.2.2.2.2.2.2.2.2.2.1
          have r105 : xz 19 = (.slice ax LX cx) := hN.2.2.2.2.2.2.2.2.2.2.2.2.2.2.2.2.2.2.2.1
          have r106 : xz 20 = (.pointer (some ⟨bB, 5, none⟩)) := hN.2.2.2.2.2.2.2.2.2.2.2.2.2.2.2.2.2.2.2.2.1
          have r107 : xz 21 = (.slice (some ⟨gd', od', none⟩) LD cd') := hN.2.2.2.2.2.2.2.2.2.2.2.2.2.2.2.2.2.2.2.2.2.1
          have r108 : xz 22 = (.int .i64 (j : Int)) := hN.2.2.2.2.2.2.2.2.2.2.2.2.2.2.2.2.2.2.2.2.2.2.1
          have r109 : xz 23 = (.pointer (some ⟨gd', od' + j * 2, none⟩)) := hN.2.2.2.2.2.2.2.2.2.2.2.2.2.2.2.2.2.2.2.2.2.2.2.1
          have r110 : xz 24 = (.pointer (some ⟨gd', od' + j * 2 + 1, none⟩)) := hN.2.2.2.2.2.2.2.2.2.2.2.2.2.2.2.2.2.2.2.2.2.2.2.2.1
          have r111 : xz 25 = (.slice ax' LX cx') := hN.2.2.2.2.2.2.2.2.2.2.2.2.2.2.2.2.2.2.2.2.2.2.2.2.2.1
          have r112 : xz 26 = (.bool true) := hN.2.2.2.2.2.2.2.2.2.2.2.2.2.2.2.2.2.2.2.2.2.2.2.2.2.2.1
          have r113 : xz 27 = (.bool false) := hN.2.2.2.2.2.2.2.2.2.2.2.2.2.2.2.2.2.2.2.2.2.2.2.2.2.2.2.1
          clear hN
          simp only [putAll, Act.put, List.setIfInBounds_toArray, List.set_cons_succ, List.set_cons_zero, r86, r87, r88, r89, r90, r91, r92, r93, r94, r95, r96, r97, r98, r99, r100, r101, r102, r103, r104, r105, r106, r107, r108, r109, r110, r111, r112, r113]
          clear r86 r87 r88 r89 r90 r91 r92 r93 r94 r95 r96 r97 r98 r99 r100 r101 r102 r103 r104 r105 r106 r107 r108 r109 r110 r111 r112 r113
          have OZ := Lib.hid (HP.out.trans ((Only.refl _ wr).drew.trans oxz)); clear oxz
          go_wp2_with fail
          go_roundw
          case rel => exact ⟨j + 1, by simp [go_sem], by omega, OZ⟩
          case measure => simp [intOf]; omega
        · have hke : j = LD := by omega
          subst hke
          have t4 : decide ((j : Int) < (j : Int)) = false := by simp
          go_wp2_with fail
          clear c5 d5
          go_roundw
          case rel => exact ⟨i + 1, by simp, by omega, Lib.hid (HOB.out.trans HP.out)⟩
          case measure => simp [intOf]; omega
    · have hke : i = L := by omega
      subst hke
      have t3 : decide ((i : Int) < (i : Int)) = false := by simp
      go_wp2_with fail
      go_ret
      exact ⟨rfl, HO.out⟩
theorem sameS_all : ∀ z, SameS z
  | 0 => fun l hz => by exfalso; cases l <;> simp at hz
  | z + 1 => sameS_step z (sameS_all z)
theorem sameSet_true (l : List SL) (G G' : Nat → Prop) (w : World) (v u : Value) (h : CellAt w G (.row 7 (l.map selC)) v) (h' : CellAt w G' (.row 7 (l.map selC)) u) :
    Calls Tryd.prog 34 #[v, u] w (fun e w' => e = .returned (.bool true) ∧ Only (fun _ => False) w w') := sameS_all _ l (Nat.le_refl _) G G' w v u h h'
end Go.Proofs.YtgephneppgcnlaaDoor
