/- . -/
import Derived.Test.YtnkpoddbbdmipaaGreatDoorTTyPrs
import Derived.Test.YtnkpoddbbdmipaaGreatDoorTTySmf
import Derived.Deep.QuietTactic
import Derived.BigQuiet
namespace Go.Proofs.YtnkpoddbbdmipaaGreatDoor
open Go Go.RowKit
open Go.Lib (hid)
set_option linter.unusedVariables false
set_option linter.unusedSimpArgs false
def nmsI (ns : List (List UInt8)) : List (List It) := ns.map fun s => [nmI s]
def fldB (fs : List FD) (j : Nat) : List UInt8 := (fs.take j).flatMap fun f => 32 :: ren (fdI f)
theorem fldB_next (fs : List FD) (j : Nat) (h : j < fs.length) : fldB fs (j + 1) = fldB fs j ++ ([32] ++ ren (fdI fs[j])) := by
 unfold fldB; rw [List.take_succ_eq_append_getElem h, List.flatMap_append]; simp
theorem fldB_le (fs : List FD) (j : Nat) : (fldB fs j).length ≤ (fldB fs fs.length).length := by
 unfold fldB
 conv => rhs; rw [List.take_length, ← List.take_append_drop j fs, List.flatMap_append, List.length_append]
 omega
theorem flat_ren : ∀ fs : List FD, ren (fs.flatMap fun f => .sp 32 :: fdI f) = fldB fs fs.length
 | [] => rfl
 | f :: fs => by
  have := flat_ren fs; unfold fldB at this ⊢; rw [List.take_length] at this ⊢; rw [List.flatMap_cons, List.flatMap_cons, ren_app, ren_cons, this]; rfl
theorem brI_ren (fs : List FD) : ren (brI (fs.flatMap fun f => .sp 32 :: fdI f)) = [32, 123] ++ fldB fs fs.length ++ [32, 125] := by
 unfold brI; rw [ren_cons, ren_cons, ren_app, flat_ren]; simp [ren, It.src, sgI]
theorem sp_ren : ren [.sp 32] = [32] := rfl
theorem h0 : ∀ g, sepI g [] = [] := fun _ => rfl
theorem td_ren1a (nm : List UInt8) (fs : List FD) (ns : List (List UInt8)) (h : ns ≠ []) : ren (tdI ⟨1, nm, fs, ns⟩) = [116, 121, 112, 101, 32] ++ nm ++ [32, 105, 109, 112, 108, 101, 109, 101, 110, 116, 115, 32] ++ ren (sepI [.sp 32, sgI 38, .sp 32] (nmsI ns)) ++ ([32, 123] ++ fldB fs fs.length ++ [32, 125]) := by
 rw [tdI_eq]; have hb := brI_ren fs
 try simp only [h, and_true, ne_eq, not_false_eq_true, if_true, ren_app, ren_cons, if_pos, hb]
 simp [namI, nmsI, ren, It.src, nmI, sgI, wType, wInterface, wInput, wUnion, wEnum, wImplements, h0, sepI, ren_app]; simpa [ren] using hb
theorem td_ren1b (nm : List UInt8) (fs : List FD) (ns : List (List UInt8)) (h : ns = []) : ren (tdI ⟨1, nm, fs, ns⟩) = [116, 121, 112, 101, 32] ++ nm ++ [] ++ ren (sepI [.sp 32, sgI 38, .sp 32] (nmsI ns)) ++ ([32, 123] ++ fldB fs fs.length ++ [32, 125]) := by
 rw [tdI_eq]; have hb := brI_ren fs; subst h
 try simp only [ren_app, ren_cons, hb]
 simp [namI, nmsI, ren, It.src, nmI, sgI, wType, wInterface, wInput, wUnion, wEnum, wImplements, h0, sepI, ren_app]; simpa [ren] using hb
theorem td_ren2 (nm : List UInt8) (fs : List FD) (ns : List (List UInt8)) (h : ns = []) : ren (tdI ⟨2, nm, fs, ns⟩) = [105, 110, 116, 101, 114, 102, 97, 99, 101, 32] ++ nm ++ [] ++ ren (sepI [.sp 32, sgI 124, .sp 32] (nmsI ns)) ++ ([32, 123] ++ fldB fs fs.length ++ [32, 125]) := by
 rw [tdI_eq]; have hb := brI_ren fs; subst h
 try simp only [ren_app, ren_cons, hb]
 simp [namI, nmsI, ren, It.src, nmI, sgI, wType, wInterface, wInput, wUnion, wEnum, wImplements, h0, sepI, ren_app]; simpa [ren] using hb
theorem td_ren3 (nm : List UInt8) (fs : List FD) (ns : List (List UInt8)) (h : True) : ren (tdI ⟨3, nm, fs, ns⟩) = [117, 110, 105, 111, 110, 32] ++ nm ++ [32, 61, 32] ++ ren (sepI [.sp 32, sgI 124, .sp 32] (nmsI ns)) ++ [] := by
 rw [tdI_eq]
 try simp only [ren_app, ren_cons]
 simp [namI, nmsI, ren, It.src, nmI, sgI, wType, wInterface, wInput, wUnion, wEnum, wImplements, h0, sepI, ren_app]
theorem td_ren4 (nm : List UInt8) (fs : List FD) (ns : List (List UInt8)) (h : True) : ren (tdI ⟨4, nm, fs, ns⟩) = [101, 110, 117, 109, 32] ++ nm ++ [32, 123, 32] ++ ren (sepI [.sp 32] (nmsI ns)) ++ [32, 125] := by
 rw [tdI_eq]
 try simp only [ren_app, ren_cons]
 simp [namI, nmsI, ren, It.src, nmI, sgI, wType, wInterface, wInput, wUnion, wEnum, wImplements, h0, sepI, ren_app]
theorem td_ren5 (nm : List UInt8) (fs : List FD) (ns : List (List UInt8)) (h : ns = []) : ren (tdI ⟨5, nm, fs, ns⟩) = [105, 110, 112, 117, 116, 32] ++ nm ++ [] ++ ren (sepI [.sp 32, sgI 124, .sp 32] (nmsI ns)) ++ ([32, 123] ++ fldB fs fs.length ++ [32, 125]) := by
 rw [tdI_eq]; have hb := brI_ren fs; subst h
 try simp only [ren_app, ren_cons, hb]
 simp [namI, nmsI, ren, It.src, nmI, sgI, wType, wInterface, wInput, wUnion, wEnum, wImplements, h0, sepI, ren_app]; simpa [ren] using hb
def WellT (t : TD) : Prop := (t.kind = 1 ∨ (t.kind = 2 ∧ t.names = []) ∨ t.kind = 3 ∨ t.kind = 4 ∨ (t.kind = 5 ∧ t.names = [])) ∧ ∀ f ∈ t.fields, WellF f
set_option maxRecDepth 100000 in
set_option maxHeartbeats 64000000 in
theorem prTs_any (ts : List TD) (hw : ∀ t ∈ ts, WellT t) (G : Nat → Prop) (w : World) (v : Value) (h : CellAt w G (.row 4 (ts.map tdC)) v) (hl : (ren (tysI ts)).length ≤ 1000000000000) :
  Calls Tryz.prog 31 #[v] w (fun e w' => e = .returned (.string ⟨(ren (tysI ts)).toArray⟩) ∧ Only (fun _ => False) w w') := by
 obtain ⟨at_, ct, rfl, k1, k2, k3⟩ := rows_at h; obtain ⟨N, hN⟩ := eX (ts.length); obtain ⟨its, hits⟩ := eX (ts.map tdI); have hil : its.length = N := by rw [← hits, List.length_map, hN]
 have hig : ∀ i (h : i < ts.length) (h' : i < its.length), its[i] = tdI ts[i] := fun i h h' => by subst hits; rw [List.getElem_map]
 have htr : tysI ts = sepI [.sp 32] its := by rw [← hits]; rfl
 rw [htr] at hl ⊢; rw [hN] at k1 ⊢; obtain ⟨R, hR⟩ := eX (ren (sepI [.sp 32] its)); rw [hR]; have HR := hid hR; clear hR; have HK := hid k3; have HN := hid hN; have HIL := hid hil; have HIG := hid hig; have HW := hid hw; have HLL := hid hl; clear h hw hl k3 hN hits hil hig htr
 go_enter Tryz.func31, Tryz.ntmps31
 go_wp2_with fail
 go_loopw [3, 4] (fun x y wr => ∃ i : Nat, y = .int .i64 (i : Int) ∧ i ≤ N ∧ x = .string ⟨(ren (sepI [.sp 32] (its.take i))).toArray⟩ ∧ Hid (Only (fun _ => False) w wr)) (fun _ y _ => N - (intOf y).toNat)
 case atStart => exact ⟨0, rfl, by omega, by rw [sep_zero], hid oR⟩
 case round =>
  obtain ⟨i, rfl, hi, rfl, HO⟩ := hrel; have hal := Nat.le_trans (sep_le [.sp 32] its i) HLL.out
  by_cases hlt : i < N
  ·have t1 : decide ((i : Int) < (N : Int)) = true := decide_eq_true (by omega); have hi0 : (0 : Int) ≤ (i : Int) := by omega
   have hi1 : (i : Int) < (N : Int) := by omega
   have hvi : i < ts.length := by rw [HN.out]; exact hlt
   have hii : i < its.length := by rw [HIL.out]; exact hlt
   have hnx := sep_next [.sp 32] its i hii; have hnl := Nat.le_trans (sep_le [.sp 32] its (i + 1)) HLL.out; have hitem := HIG.out i hvi hii; have hwt := HW.out ts[i] (List.getElem_mem hvi); obtain ⟨gt, ot, xs, rfl, -, q1, q2⟩ := HK.out i hvi; obtain ⟨td, htd⟩ := eX (ts[i]); rw [htd] at hitem hwt q2; rw [hitem] at hnx; obtain ⟨kk, nm, fs, ns⟩ := td; obtain ⟨fv, nv, rfl, hf, hn⟩ := td_cells q2; obtain ⟨hkk, hwf⟩ := hwt; obtain ⟨af, cf, rfl, fk1, fk2, fk3⟩ := rows_at hf; obtain ⟨an, cn, rfl, nk1, nk2, nk3⟩ := rows_at hn; simp only at hkk hwf fk1 fk2 fk3 nk1 nk2 nk3 q1; obtain ⟨e0, e1, e2, e3⟩ := cells4_in q1; have e0 := keepc HO.out e0; have e1 := keepc HO.out e1; have e2 := keepc HO.out e2; have e3 := keepc HO.out e3; obtain ⟨LF, hLF⟩ := eX (fs.length); obtain ⟨LN, hLN⟩ := eX (ns.length); rw [hLF] at e2 fk1; rw [hLN] at e3 nk1; obtain ⟨acc, hacc⟩ := eX (ren (sepI [.sp 32] (its.take i))); obtain ⟨acc', hacc'⟩ : ∃ a, ren (sepI [.sp 32] (its.take (i + 1))) = a := ⟨_, rfl⟩; have HA' := hid hacc'; rw [hacc] at hal hnx ⊢; rw [hacc'] at hnx hnl; have HFK := hid fk3; have HNK := hid nk3; have HLF := hid hLF; have HLN := hid hLN; have HWF := hid hwf; have HNL := hid hnl; clear hacc hacc' hitem q1 q2 hf hn fk3 nk3 hLF hLN hwf hnl htd
   by_cases hz : 0 < i
   ·have tz : decide ((i : Int) > 0) = true := decide_eq_true (by omega)
    rcases hkk with hk | ⟨hk, hns⟩ | hk | hk | ⟨hk, hns⟩
    ·subst hk
     by_cases hns : ns = []
     ·have t2 : decide ((LN : Int) > 0) = false := decide_eq_false (by have := HLN.out; rw [hns] at this; simp at this; omega); have hln0 : ¬ 0 < LN := by have := HLN.out; rw [hns] at this; simp at this; omega
      have htr := td_ren1b nm fs ns (by first | exact hns | trivial); rw [htr] at hnx; have hnl := HNL.out; obtain ⟨pre, hpre⟩ := eX (acc ++ (if 0 < i then ren [.sp 32] else []) ++ ([116, 121, 112, 101, 32] ++ nm) ++ []); have hnx2 : acc' = pre ++ ren (sepI [.sp 32, sgI 38, .sp 32] (nmsI ns)) ++ ([32, 123] ++ fldB fs fs.length ++ [32, 125]) := by rw [hnx, ← hpre]; simp only [List.append_assoc]
      have hpl : pre.length ≤ 1000000000000 := by rw [hnx2] at hnl; simp only [List.length_append] at hnl; omega
      have hpn : (pre ++ ren (sepI [.sp 32, sgI 38, .sp 32] (nmsI ns))).length ≤ 1000000000000 := by rw [hnx2] at hnl; simp only [List.length_append] at hnl ⊢; omega
      have hnml : nm.length ≤ 1000000000000 := by rw [← hpre] at hpl; simp only [List.length_append] at hpl; omega
      rw [if_pos hz, sp_ren] at hpre; have HPRE := hid hpre; have HNX := hid hnx2; have HPN := hid hpn; clear hnx2 hpre hpn hnx htr hnl; obtain ⟨bA, hbA⟩ := eX (wr.heap.size); obtain ⟨wa, hwa⟩ := eX (wr.alloc (.cells #[.int .u8 1, .string ⟨nm.toArray⟩, .slice af LF cf, .slice an LN cn] 99)); have hx1 : wa.heap[bA]? = some (.cells #[.int .u8 1, .string ⟨nm.toArray⟩, .slice af LF cf, .slice an LN cn] 99 (0, 0)) := by rw [← hwa, ← hbA]; exact heap_new wr _
      have oa : Only (fun _ => False) wr wa := by rw [← hwa]; exact (Only.refl _ wr).alloc _
      obtain ⟨bB, hbB⟩ := eX (wa.heap.size); obtain ⟨wb, hwb⟩ := eX (wa.alloc (.cells #[.string ⟨#[]⟩, .string ⟨#[116, 121, 112, 101, 32]⟩, .string ⟨#[105, 110, 116, 101, 114, 102, 97, 99, 101, 32]⟩, .string ⟨#[117, 110, 105, 111, 110, 32]⟩, .string ⟨#[101, 110, 117, 109, 32]⟩, .string ⟨#[105, 110, 112, 117, 116, 32]⟩] 9)); have hx2 : wb.heap[bB]? = some (.cells #[.string ⟨#[]⟩, .string ⟨#[116, 121, 112, 101, 32]⟩, .string ⟨#[105, 110, 116, 101, 114, 102, 97, 99, 101, 32]⟩, .string ⟨#[117, 110, 105, 111, 110, 32]⟩, .string ⟨#[101, 110, 117, 109, 32]⟩, .string ⟨#[105, 110, 112, 117, 116, 32]⟩] 9 (0, 0)) := by rw [← hwb, ← hbB]; exact heap_new wa _
      have ob : Only (fun _ => False) wa wb := by rw [← hwb]; exact (Only.refl _ wa).alloc _
      obtain ⟨c0, c1, c2, c3, -⟩ := boxN4 hx1; have d1 : wb.cell? ⟨bB, 1, none⟩ = some (.string ⟨#[116, 121, 112, 101, 32]⟩) := by simp [World.cell?, hx2]
      have c0 := keepc ob c0; have c1 := keepc ob c1; have c2 := keepc ob c2; have c3 := keepc ob c3; have HC := hid (fun (wx : World) (ox : Only (fun _ => False) wb wx) => And.intro (keepc ox c0) (And.intro (keepc ox c1) (And.intro (keepc ox c2) (keepc ox c3)))); have HOB := hid ((HO.out.trans oa).trans ob); have HWA := hid hwa; have HWB := hid hwb; have HBA := hid hbA; have HBB := hid hbB; clear hx1 hx2 oa ob hwa hwb hbA hbB
      go_upto_region 6 with (fail)
      rw [HWA.out, HBA.out]; clear e0 e1 e2 e3
      go_upto_region 9 with (fail)
      rw [HWB.out, HBB.out]
      go_quiet (fail)
      clear c0 c1 c2 c3 d1; have oq : Only (fun _ => False) wb (wb.drewN nq) := (Only.refl (fun _ => False) wb).drewN nq; obtain ⟨c0, c1, c2, c3⟩ := HC.out _ oq; have HQ := hid oq; clear oq
      generalize wb.drewN nq = wq at *
      go_wp2_with fail
      clear c0 c1 c2 c3
      go_loopw [3, 8] (fun x y w8 => ∃ j : Nat, y = .int .i64 (j : Int) ∧ j ≤ LN ∧ x = .string ⟨(pre ++ ren (sepI [.sp 32, sgI 38, .sp 32] ((nmsI ns).take j))).toArray⟩ ∧ Hid (Only (fun _ => False) wb w8)) (fun _ y _ => LN - (intOf y).toNat)
      case atStart => exact ⟨0, rfl, by omega, by rw [sep_zero, List.append_nil, ← HPRE.out]; simp only [← cat_list, List.append_nil], HQ⟩
      case round =>
       clear HQ; obtain ⟨j, rfl, hj, rfl, HP⟩ := hrel; obtain ⟨c0, c1, c2, c3⟩ := HC.out _ HP.out; have hsl := sep_le [.sp 32, sgI 38, .sp 32] (nmsI ns) j; have hsl : (pre ++ ren (sepI [.sp 32, sgI 38, .sp 32] ((nmsI ns).take j))).length ≤ 1000000000000 := by have := HPN.out; rw [List.length_append] at this ⊢; omega
       by_cases hltj : j < LN
       ·exact absurd hltj (by have := HLN.out; rw [hns] at this; simp at this; omega)
       ·have t3 : decide ((j : Int) < (LN : Int)) = false := decide_eq_false (by omega); have hjn : j = LN := by omega
        have htk : (nmsI ns).take j = nmsI ns := List.take_of_length_le (by unfold nmsI; rw [List.length_map, HLN.out]; omega); rw [htk] at hsl ⊢; obtain ⟨P, hP⟩ := eX (pre ++ ren (sepI [.sp 32, sgI 38, .sp 32] (nmsI ns))); have hnx := HNX.out; rw [hP] at hsl hnx ⊢; have HNX2 := hid hnx; have HPO := hid (HOB.out.trans HP.out); subst hjn; clear hnx htk hP; have hnl := HNL.out; rw [HNX2.out] at hnl; simp only [List.length_append] at hnl; have HNL2 := hid hnl; clear hnl
        go_wp2_with fail
        clear c0 c1 c2 c3
        go_loopw [3, 9] (fun x y w8 => ∃ j : Nat, y = .int .i64 (j : Int) ∧ j ≤ LF ∧ x = .string ⟨(P ++ [32, 123] ++ fldB fs j).toArray⟩ ∧ Hid (Only (fun _ => False) wb w8)) (fun _ y _ => LF - (intOf y).toNat)
        case atStart => exact ⟨0, rfl, by omega, by rw [show fldB fs 0 = [] from rfl, List.append_nil]; simp only [← cat_list], HP⟩
        case round =>
         clear HP HPO; obtain ⟨m, rfl, hm, rfl, HP⟩ := hrel; obtain ⟨c0, c1, c2, c3⟩ := HC.out _ HP.out; have hfl := fldB_le fs m; have hnl := HNL2.out; have hsl3 : (P ++ [32, 123] ++ fldB fs m).length ≤ 1000000000000 := by simp only [List.length_append]; omega
         by_cases hltm : m < LF
         ·have t5 : decide ((m : Int) < (LF : Int)) = true := decide_eq_true (by omega); have hm0 : (0 : Int) ≤ (m : Int) := by omega
          have hm1 : (m : Int) < (LF : Int) := by omega
          have hml : m < fs.length := by rw [HLF.out]; exact hltm
          have hfn := fldB_next fs m hml; have hfl2 := fldB_le fs (m + 1); rw [hfn] at hfl2; simp only [List.length_append] at hfl2; have hfr : (ren (fdI fs[m])).length ≤ 1000000000000 := by omega
          obtain ⟨gv, ov, xs, rfl, -, hr, hc⟩ := HFK.out m hml; have hrec := prF_any fs[m] (HWF.out fs[m] (List.getElem_mem hml)) G wr xs (CellsAt.only (HOB.out.trans HP.out) (fun _ _ h => h) _ _ hc) hfr; obtain ⟨m0', g', lg', eg', s1', a1', l1', e1', b1', h1', k', n', s2', a2', l2', e2', a3', l3', e3', he⟩ := fdC_form hc; rw [he] at hrec; have hxs : xs = (#[.string ⟨m0'.toArray⟩, .slice g' lg' eg', .string ⟨s1'.toArray⟩, .slice a1' l1' e1', .bool b1', .bool h1', .int .u8 (k' : Int), .int .i64 n', .string ⟨s2'.toArray⟩, .slice a2' l2' e2', .slice a3' l3' e3'] : Array Value).toList := by rw [← he]
          rw [hxs] at hr; obtain ⟨y0, y1, y2, y3, y4, y5, y6, y7, y8, y9, y10⟩ := cells11_of hr; have y0 := keepc (HOB.out.trans HP.out) y0; have y1 := keepc (HOB.out.trans HP.out) y1; have y2 := keepc (HOB.out.trans HP.out) y2; have y3 := keepc (HOB.out.trans HP.out) y3; have y4 := keepc (HOB.out.trans HP.out) y4; have y5 := keepc (HOB.out.trans HP.out) y5; have y6 := keepc (HOB.out.trans HP.out) y6; have y7 := keepc (HOB.out.trans HP.out) y7; have y8 := keepc (HOB.out.trans HP.out) y8; have y9 := keepc (HOB.out.trans HP.out) y9; have y10 := keepc (HOB.out.trans HP.out) y10; obtain ⟨Q, hQ⟩ := eX (P ++ [32, 123] ++ fldB fs m); have hQ' : P ++ [32, 123] ++ fldB fs (m + 1) = Q ++ ([32] ++ ren (fdI fs[m])) := by rw [hfn, ← hQ]; simp only [List.append_assoc]
          rw [hQ] at hsl3 ⊢
          generalize ren (fdI fs[m]) = rv at *
          have HQ' := hid hQ'; have HREC := hid hrec; clear hQ hQ' hfn hfl hfl2 hrec he hxs hr hc hnl c0 c1 c3
          go_wp2_with fail
          refine HREC.out.mono ?_
          rintro e w6 ⟨rfl, o6⟩; have HO6 := hid (HP.out.trans o6); clear o6 c2 y0 y1 y2 y3 y4 y5 y6 y7 y8 y9 y10
          go_wp2_with fail
          go_roundw
          case rel => exact ⟨m + 1, by simp, by omega, by rw [HQ'.out]; simp only [← cat_list], HO6⟩
          case measure => simp [intOf]; omega
         ·have t5 : decide ((m : Int) < (LF : Int)) = false := decide_eq_false (by omega); have hmn : m = LF := by omega
          subst hmn; have hnx := HNX2.out; rw [HLF.out] at hnx; have HNX3 := hid hnx; have HPO := hid (HOB.out.trans HP.out); clear hnx; have hnx := HNX3.out; rw [show P ++ ([32, 123] ++ fldB fs m ++ [32, 125]) = P ++ [32, 123] ++ fldB fs m ++ [32, 125] from by simp only [List.append_assoc]] at hnx; obtain ⟨Q, hQ⟩ := eX (P ++ [32, 123] ++ fldB fs m); rw [hQ] at hsl3 hnx ⊢; have HNX4 := hid hnx; clear hnx hfl hnl c0 c1 c3 hQ HNX3
          go_wp2_with fail
          clear c2
          go_roundw
          case rel => exact ⟨i + 1, by simp, by omega, by rw [HA'.out, HNX4.out]; simp only [← cat_list], HPO⟩
          case measure => simp [intOf]; omega
     ·have t2 : decide ((LN : Int) > 0) = true := decide_eq_true (by have := HLN.out; have := List.length_pos_iff.2 hns; omega); have hln0 : 0 < LN := by have := HLN.out; have := List.length_pos_iff.2 hns; omega
      have htr := td_ren1a nm fs ns (by first | exact hns | trivial); rw [htr] at hnx; have hnl := HNL.out; obtain ⟨pre, hpre⟩ := eX (acc ++ (if 0 < i then ren [.sp 32] else []) ++ ([116, 121, 112, 101, 32] ++ nm) ++ [32, 105, 109, 112, 108, 101, 109, 101, 110, 116, 115, 32]); have hnx2 : acc' = pre ++ ren (sepI [.sp 32, sgI 38, .sp 32] (nmsI ns)) ++ ([32, 123] ++ fldB fs fs.length ++ [32, 125]) := by rw [hnx, ← hpre]; simp only [List.append_assoc]
      have hpl : pre.length ≤ 1000000000000 := by rw [hnx2] at hnl; simp only [List.length_append] at hnl; omega
      have hpn : (pre ++ ren (sepI [.sp 32, sgI 38, .sp 32] (nmsI ns))).length ≤ 1000000000000 := by rw [hnx2] at hnl; simp only [List.length_append] at hnl ⊢; omega
      have hnml : nm.length ≤ 1000000000000 := by rw [← hpre] at hpl; simp only [List.length_append] at hpl; omega
      rw [if_pos hz, sp_ren] at hpre; have HPRE := hid hpre; have HNX := hid hnx2; have HPN := hid hpn; clear hnx2 hpre hpn hnx htr hnl; obtain ⟨bA, hbA⟩ := eX (wr.heap.size); obtain ⟨wa, hwa⟩ := eX (wr.alloc (.cells #[.int .u8 1, .string ⟨nm.toArray⟩, .slice af LF cf, .slice an LN cn] 99)); have hx1 : wa.heap[bA]? = some (.cells #[.int .u8 1, .string ⟨nm.toArray⟩, .slice af LF cf, .slice an LN cn] 99 (0, 0)) := by rw [← hwa, ← hbA]; exact heap_new wr _
      have oa : Only (fun _ => False) wr wa := by rw [← hwa]; exact (Only.refl _ wr).alloc _
      obtain ⟨bB, hbB⟩ := eX (wa.heap.size); obtain ⟨wb, hwb⟩ := eX (wa.alloc (.cells #[.string ⟨#[]⟩, .string ⟨#[116, 121, 112, 101, 32]⟩, .string ⟨#[105, 110, 116, 101, 114, 102, 97, 99, 101, 32]⟩, .string ⟨#[117, 110, 105, 111, 110, 32]⟩, .string ⟨#[101, 110, 117, 109, 32]⟩, .string ⟨#[105, 110, 112, 117, 116, 32]⟩] 9)); have hx2 : wb.heap[bB]? = some (.cells #[.string ⟨#[]⟩, .string ⟨#[116, 121, 112, 101, 32]⟩, .string ⟨#[105, 110, 116, 101, 114, 102, 97, 99, 101, 32]⟩, .string ⟨#[117, 110, 105, 111, 110, 32]⟩, .string ⟨#[101, 110, 117, 109, 32]⟩, .string ⟨#[105, 110, 112, 117, 116, 32]⟩] 9 (0, 0)) := by rw [← hwb, ← hbB]; exact heap_new wa _
      have ob : Only (fun _ => False) wa wb := by rw [← hwb]; exact (Only.refl _ wa).alloc _
      obtain ⟨c0, c1, c2, c3, -⟩ := boxN4 hx1; have d1 : wb.cell? ⟨bB, 1, none⟩ = some (.string ⟨#[116, 121, 112, 101, 32]⟩) := by simp [World.cell?, hx2]
      have c0 := keepc ob c0; have c1 := keepc ob c1; have c2 := keepc ob c2; have c3 := keepc ob c3; have HC := hid (fun (wx : World) (ox : Only (fun _ => False) wb wx) => And.intro (keepc ox c0) (And.intro (keepc ox c1) (And.intro (keepc ox c2) (keepc ox c3)))); have HOB := hid ((HO.out.trans oa).trans ob); have HWA := hid hwa; have HWB := hid hwb; have HBA := hid hbA; have HBB := hid hbB; clear hx1 hx2 oa ob hwa hwb hbA hbB
      go_upto_region 6 with (fail)
      rw [HWA.out, HBA.out]; clear e0 e1 e2 e3
      go_upto_region 9 with (fail)
      rw [HWB.out, HBB.out]
      go_quiet (fail)
      clear c0 c1 c2 c3 d1; have oq : Only (fun _ => False) wb (wb.drewN nq) := (Only.refl (fun _ => False) wb).drewN nq; obtain ⟨c0, c1, c2, c3⟩ := HC.out _ oq; have HQ := hid oq; clear oq
      generalize wb.drewN nq = wq at *
      go_wp2_with fail
      clear c0 c1 c2 c3
      go_loopw [3, 8] (fun x y w8 => ∃ j : Nat, y = .int .i64 (j : Int) ∧ j ≤ LN ∧ x = .string ⟨(pre ++ ren (sepI [.sp 32, sgI 38, .sp 32] ((nmsI ns).take j))).toArray⟩ ∧ Hid (Only (fun _ => False) wb w8)) (fun _ y _ => LN - (intOf y).toNat)
      case atStart => exact ⟨0, rfl, by omega, by rw [sep_zero, List.append_nil, ← HPRE.out]; simp only [← cat_list, ByteArray.append_assoc], HQ⟩
      case round =>
       clear HQ; obtain ⟨j, rfl, hj, rfl, HP⟩ := hrel; obtain ⟨c0, c1, c2, c3⟩ := HC.out _ HP.out; have hsl := sep_le [.sp 32, sgI 38, .sp 32] (nmsI ns) j; have hsl : (pre ++ ren (sepI [.sp 32, sgI 38, .sp 32] ((nmsI ns).take j))).length ≤ 1000000000000 := by have := HPN.out; rw [List.length_append] at this ⊢; omega
       by_cases hltj : j < LN
       ·have t3 : decide ((j : Int) < (LN : Int)) = true := decide_eq_true (by omega); have hj0 : (0 : Int) ≤ (j : Int) := by omega
        have hj1 : (j : Int) < (LN : Int) := by omega
        have hjl : j < ns.length := by rw [HLN.out]; exact hltj
        have hjm : j < (nmsI ns).length := by unfold nmsI; rw [List.length_map]; exact hjl
        have hnj := sep_next [.sp 32, sgI 38, .sp 32] (nmsI ns) j hjm; have hni : ren (nmsI ns)[j] = ns[j] := by simp [nmsI, ren, It.src, nmI]
        rw [hni] at hnj; have hsl2 := sep_le [.sp 32, sgI 38, .sp 32] (nmsI ns) (j + 1); obtain ⟨gd, od, ys, rfl, -, p1, p2⟩ := HNK.out j hjl; have := str_cell p2; subst this; have p1 := keepc (HOB.out.trans HP.out) (p1 0 _ rfl); rw [Nat.mul_one, Nat.add_zero] at p1; have hsn : ns[j].length ≤ 1000000000000 := by have := HPN.out; rw [List.length_append] at this; rw [hnj, List.length_append] at hsl2; omega
        obtain ⟨P, hP⟩ := eX (pre ++ ren (sepI [.sp 32, sgI 38, .sp 32] ((nmsI ns).take j))); have hP' : pre ++ ren (sepI [.sp 32, sgI 38, .sp 32] ((nmsI ns).take (j + 1))) = P ++ (if 0 < j then ren [.sp 32, sgI 38, .sp 32] else []) ++ ns[j] := by rw [hnj, ← hP]; simp only [List.append_assoc]
        rw [hP] at hsl ⊢; have HP' := hid hP'; clear hP hP' hnj hni hsl2 p2 hjm
        generalize ns[j] = sj at *
        clear hjl
        by_cases hzj : 0 < j
        ·have t4 : decide ((j : Int) > 0) = true := decide_eq_true (by omega); rw [if_pos hzj] at HP'; clear c0 c1 c2
         go_wp2_with fail
         clear c3 p1
         go_roundw
         case rel => exact ⟨j + 1, by simp, by omega, by rw [HP'.out]; simp only [← cat_list]; rfl, HP⟩
         case measure => simp [intOf]; omega
        have hzj := hzj; have t4 : decide ((j : Int) > 0) = false := decide_eq_false (by omega); rw [if_neg hzj, List.append_nil] at HP'; clear c0 c1 c2
        go_wp2_with fail
        clear c3 p1
        go_roundw
        case rel => exact ⟨j + 1, by simp, by omega, by rw [HP'.out]; simp only [← cat_list], HP⟩
        case measure => simp [intOf]; omega
       ·have t3 : decide ((j : Int) < (LN : Int)) = false := decide_eq_false (by omega); have hjn : j = LN := by omega
        have htk : (nmsI ns).take j = nmsI ns := List.take_of_length_le (by unfold nmsI; rw [List.length_map, HLN.out]; omega); rw [htk] at hsl ⊢; obtain ⟨P, hP⟩ := eX (pre ++ ren (sepI [.sp 32, sgI 38, .sp 32] (nmsI ns))); have hnx := HNX.out; rw [hP] at hsl hnx ⊢; have HNX2 := hid hnx; have HPO := hid (HOB.out.trans HP.out); subst hjn; clear hnx htk hP; have hnl := HNL.out; rw [HNX2.out] at hnl; simp only [List.length_append] at hnl; have HNL2 := hid hnl; clear hnl
        go_wp2_with fail
        clear c0 c1 c2 c3
        go_loopw [3, 9] (fun x y w8 => ∃ j : Nat, y = .int .i64 (j : Int) ∧ j ≤ LF ∧ x = .string ⟨(P ++ [32, 123] ++ fldB fs j).toArray⟩ ∧ Hid (Only (fun _ => False) wb w8)) (fun _ y _ => LF - (intOf y).toNat)
        case atStart => exact ⟨0, rfl, by omega, by rw [show fldB fs 0 = [] from rfl, List.append_nil]; simp only [← cat_list], HP⟩
        case round =>
         clear HP HPO; obtain ⟨m, rfl, hm, rfl, HP⟩ := hrel; obtain ⟨c0, c1, c2, c3⟩ := HC.out _ HP.out; have hfl := fldB_le fs m; have hnl := HNL2.out; have hsl3 : (P ++ [32, 123] ++ fldB fs m).length ≤ 1000000000000 := by simp only [List.length_append]; omega
         by_cases hltm : m < LF
         ·have t5 : decide ((m : Int) < (LF : Int)) = true := decide_eq_true (by omega); have hm0 : (0 : Int) ≤ (m : Int) := by omega
          have hm1 : (m : Int) < (LF : Int) := by omega
          have hml : m < fs.length := by rw [HLF.out]; exact hltm
          have hfn := fldB_next fs m hml; have hfl2 := fldB_le fs (m + 1); rw [hfn] at hfl2; simp only [List.length_append] at hfl2; have hfr : (ren (fdI fs[m])).length ≤ 1000000000000 := by omega
          obtain ⟨gv, ov, xs, rfl, -, hr, hc⟩ := HFK.out m hml; have hrec := prF_any fs[m] (HWF.out fs[m] (List.getElem_mem hml)) G wr xs (CellsAt.only (HOB.out.trans HP.out) (fun _ _ h => h) _ _ hc) hfr; obtain ⟨m0', g', lg', eg', s1', a1', l1', e1', b1', h1', k', n', s2', a2', l2', e2', a3', l3', e3', he⟩ := fdC_form hc; rw [he] at hrec; have hxs : xs = (#[.string ⟨m0'.toArray⟩, .slice g' lg' eg', .string ⟨s1'.toArray⟩, .slice a1' l1' e1', .bool b1', .bool h1', .int .u8 (k' : Int), .int .i64 n', .string ⟨s2'.toArray⟩, .slice a2' l2' e2', .slice a3' l3' e3'] : Array Value).toList := by rw [← he]
          rw [hxs] at hr; obtain ⟨y0, y1, y2, y3, y4, y5, y6, y7, y8, y9, y10⟩ := cells11_of hr; have y0 := keepc (HOB.out.trans HP.out) y0; have y1 := keepc (HOB.out.trans HP.out) y1; have y2 := keepc (HOB.out.trans HP.out) y2; have y3 := keepc (HOB.out.trans HP.out) y3; have y4 := keepc (HOB.out.trans HP.out) y4; have y5 := keepc (HOB.out.trans HP.out) y5; have y6 := keepc (HOB.out.trans HP.out) y6; have y7 := keepc (HOB.out.trans HP.out) y7; have y8 := keepc (HOB.out.trans HP.out) y8; have y9 := keepc (HOB.out.trans HP.out) y9; have y10 := keepc (HOB.out.trans HP.out) y10; obtain ⟨Q, hQ⟩ := eX (P ++ [32, 123] ++ fldB fs m); have hQ' : P ++ [32, 123] ++ fldB fs (m + 1) = Q ++ ([32] ++ ren (fdI fs[m])) := by rw [hfn, ← hQ]; simp only [List.append_assoc]
          rw [hQ] at hsl3 ⊢
          generalize ren (fdI fs[m]) = rv at *
          have HQ' := hid hQ'; have HREC := hid hrec; clear hQ hQ' hfn hfl hfl2 hrec he hxs hr hc hnl c0 c1 c3
          go_wp2_with fail
          refine HREC.out.mono ?_
          rintro e w6 ⟨rfl, o6⟩; have HO6 := hid (HP.out.trans o6); clear o6 c2 y0 y1 y2 y3 y4 y5 y6 y7 y8 y9 y10
          go_wp2_with fail
          go_roundw
          case rel => exact ⟨m + 1, by simp, by omega, by rw [HQ'.out]; simp only [← cat_list], HO6⟩
          case measure => simp [intOf]; omega
         ·have t5 : decide ((m : Int) < (LF : Int)) = false := decide_eq_false (by omega); have hmn : m = LF := by omega
          subst hmn; have hnx := HNX2.out; rw [HLF.out] at hnx; have HNX3 := hid hnx; have HPO := hid (HOB.out.trans HP.out); clear hnx; have hnx := HNX3.out; rw [show P ++ ([32, 123] ++ fldB fs m ++ [32, 125]) = P ++ [32, 123] ++ fldB fs m ++ [32, 125] from by simp only [List.append_assoc]] at hnx; obtain ⟨Q, hQ⟩ := eX (P ++ [32, 123] ++ fldB fs m); rw [hQ] at hsl3 hnx ⊢; have HNX4 := hid hnx; clear hnx hfl hnl c0 c1 c3 hQ HNX3
          go_wp2_with fail
          clear c2
          go_roundw
          case rel => exact ⟨i + 1, by simp, by omega, by rw [HA'.out, HNX4.out]; simp only [← cat_list], HPO⟩
          case measure => simp [intOf]; omega
    ·subst hk; have htr := td_ren2 nm fs ns (by first | exact hns | trivial); rw [htr] at hnx; have hnl := HNL.out; obtain ⟨pre, hpre⟩ := eX (acc ++ (if 0 < i then ren [.sp 32] else []) ++ ([105, 110, 116, 101, 114, 102, 97, 99, 101, 32] ++ nm) ++ []); have hnx2 : acc' = pre ++ ren (sepI [.sp 32, sgI 124, .sp 32] (nmsI ns)) ++ ([32, 123] ++ fldB fs fs.length ++ [32, 125]) := by rw [hnx, ← hpre]; simp only [List.append_assoc]
     have hpl : pre.length ≤ 1000000000000 := by rw [hnx2] at hnl; simp only [List.length_append] at hnl; omega
     have hpn : (pre ++ ren (sepI [.sp 32, sgI 124, .sp 32] (nmsI ns))).length ≤ 1000000000000 := by rw [hnx2] at hnl; simp only [List.length_append] at hnl ⊢; omega
     have hnml : nm.length ≤ 1000000000000 := by rw [← hpre] at hpl; simp only [List.length_append] at hpl; omega
     rw [if_pos hz, sp_ren] at hpre; have HPRE := hid hpre; have HNX := hid hnx2; have HPN := hid hpn; clear hnx2 hpre hpn hnx htr hnl; obtain ⟨bA, hbA⟩ := eX (wr.heap.size); obtain ⟨wa, hwa⟩ := eX (wr.alloc (.cells #[.int .u8 2, .string ⟨nm.toArray⟩, .slice af LF cf, .slice an LN cn] 99)); have hx1 : wa.heap[bA]? = some (.cells #[.int .u8 2, .string ⟨nm.toArray⟩, .slice af LF cf, .slice an LN cn] 99 (0, 0)) := by rw [← hwa, ← hbA]; exact heap_new wr _
     have oa : Only (fun _ => False) wr wa := by rw [← hwa]; exact (Only.refl _ wr).alloc _
     obtain ⟨bB, hbB⟩ := eX (wa.heap.size); obtain ⟨wb, hwb⟩ := eX (wa.alloc (.cells #[.string ⟨#[]⟩, .string ⟨#[116, 121, 112, 101, 32]⟩, .string ⟨#[105, 110, 116, 101, 114, 102, 97, 99, 101, 32]⟩, .string ⟨#[117, 110, 105, 111, 110, 32]⟩, .string ⟨#[101, 110, 117, 109, 32]⟩, .string ⟨#[105, 110, 112, 117, 116, 32]⟩] 9)); have hx2 : wb.heap[bB]? = some (.cells #[.string ⟨#[]⟩, .string ⟨#[116, 121, 112, 101, 32]⟩, .string ⟨#[105, 110, 116, 101, 114, 102, 97, 99, 101, 32]⟩, .string ⟨#[117, 110, 105, 111, 110, 32]⟩, .string ⟨#[101, 110, 117, 109, 32]⟩, .string ⟨#[105, 110, 112, 117, 116, 32]⟩] 9 (0, 0)) := by rw [← hwb, ← hbB]; exact heap_new wa _
     have ob : Only (fun _ => False) wa wb := by rw [← hwb]; exact (Only.refl _ wa).alloc _
     obtain ⟨c0, c1, c2, c3, -⟩ := boxN4 hx1; have d1 : wb.cell? ⟨bB, 2, none⟩ = some (.string ⟨#[105, 110, 116, 101, 114, 102, 97, 99, 101, 32]⟩) := by simp [World.cell?, hx2]
     have c0 := keepc ob c0; have c1 := keepc ob c1; have c2 := keepc ob c2; have c3 := keepc ob c3; have HC := hid (fun (wx : World) (ox : Only (fun _ => False) wb wx) => And.intro (keepc ox c0) (And.intro (keepc ox c1) (And.intro (keepc ox c2) (keepc ox c3)))); have HOB := hid ((HO.out.trans oa).trans ob); have HWA := hid hwa; have HWB := hid hwb; have HBA := hid hbA; have HBB := hid hbB; clear hx1 hx2 oa ob hwa hwb hbA hbB
     go_upto_region 6 with (fail)
     rw [HWA.out, HBA.out]; clear e0 e1 e2 e3
     go_upto_region 9 with (fail)
     rw [HWB.out, HBB.out]
     go_quiet (fail)
     clear c0 c1 c2 c3 d1; have oq : Only (fun _ => False) wb (wb.drewN nq) := (Only.refl (fun _ => False) wb).drewN nq; obtain ⟨c0, c1, c2, c3⟩ := HC.out _ oq; have HQ := hid oq; clear oq
     generalize wb.drewN nq = wq at *
     go_wp2_with fail
     clear c0 c1 c2 c3
     go_loopw [3, 8] (fun x y w8 => ∃ j : Nat, y = .int .i64 (j : Int) ∧ j ≤ LN ∧ x = .string ⟨(pre ++ ren (sepI [.sp 32, sgI 124, .sp 32] ((nmsI ns).take j))).toArray⟩ ∧ Hid (Only (fun _ => False) wb w8)) (fun _ y _ => LN - (intOf y).toNat)
     case atStart => exact ⟨0, rfl, by omega, by rw [sep_zero, List.append_nil, ← HPRE.out]; simp only [← cat_list, List.append_nil], HQ⟩
     case round =>
      clear HQ; obtain ⟨j, rfl, hj, rfl, HP⟩ := hrel; obtain ⟨c0, c1, c2, c3⟩ := HC.out _ HP.out; have hsl := sep_le [.sp 32, sgI 124, .sp 32] (nmsI ns) j; have hsl : (pre ++ ren (sepI [.sp 32, sgI 124, .sp 32] ((nmsI ns).take j))).length ≤ 1000000000000 := by have := HPN.out; rw [List.length_append] at this ⊢; omega
      by_cases hltj : j < LN
      ·exact absurd hltj (by have := HLN.out; rw [hns] at this; simp at this; omega)
      ·have t3 : decide ((j : Int) < (LN : Int)) = false := decide_eq_false (by omega); have hjn : j = LN := by omega
       have htk : (nmsI ns).take j = nmsI ns := List.take_of_length_le (by unfold nmsI; rw [List.length_map, HLN.out]; omega); rw [htk] at hsl ⊢; obtain ⟨P, hP⟩ := eX (pre ++ ren (sepI [.sp 32, sgI 124, .sp 32] (nmsI ns))); have hnx := HNX.out; rw [hP] at hsl hnx ⊢; have HNX2 := hid hnx; have HPO := hid (HOB.out.trans HP.out); subst hjn; clear hnx htk hP; have hnl := HNL.out; rw [HNX2.out] at hnl; simp only [List.length_append] at hnl; have HNL2 := hid hnl; clear hnl
       go_wp2_with fail
       clear c0 c1 c2 c3
       go_loopw [3, 9] (fun x y w8 => ∃ j : Nat, y = .int .i64 (j : Int) ∧ j ≤ LF ∧ x = .string ⟨(P ++ [32, 123] ++ fldB fs j).toArray⟩ ∧ Hid (Only (fun _ => False) wb w8)) (fun _ y _ => LF - (intOf y).toNat)
       case atStart => exact ⟨0, rfl, by omega, by rw [show fldB fs 0 = [] from rfl, List.append_nil]; simp only [← cat_list], HP⟩
       case round =>
        clear HP HPO; obtain ⟨m, rfl, hm, rfl, HP⟩ := hrel; obtain ⟨c0, c1, c2, c3⟩ := HC.out _ HP.out; have hfl := fldB_le fs m; have hnl := HNL2.out; have hsl3 : (P ++ [32, 123] ++ fldB fs m).length ≤ 1000000000000 := by simp only [List.length_append]; omega
        by_cases hltm : m < LF
        ·have t5 : decide ((m : Int) < (LF : Int)) = true := decide_eq_true (by omega); have hm0 : (0 : Int) ≤ (m : Int) := by omega
         have hm1 : (m : Int) < (LF : Int) := by omega
         have hml : m < fs.length := by rw [HLF.out]; exact hltm
         have hfn := fldB_next fs m hml; have hfl2 := fldB_le fs (m + 1); rw [hfn] at hfl2; simp only [List.length_append] at hfl2; have hfr : (ren (fdI fs[m])).length ≤ 1000000000000 := by omega
         obtain ⟨gv, ov, xs, rfl, -, hr, hc⟩ := HFK.out m hml; have hrec := prF_any fs[m] (HWF.out fs[m] (List.getElem_mem hml)) G wr xs (CellsAt.only (HOB.out.trans HP.out) (fun _ _ h => h) _ _ hc) hfr; obtain ⟨m0', g', lg', eg', s1', a1', l1', e1', b1', h1', k', n', s2', a2', l2', e2', a3', l3', e3', he⟩ := fdC_form hc; rw [he] at hrec; have hxs : xs = (#[.string ⟨m0'.toArray⟩, .slice g' lg' eg', .string ⟨s1'.toArray⟩, .slice a1' l1' e1', .bool b1', .bool h1', .int .u8 (k' : Int), .int .i64 n', .string ⟨s2'.toArray⟩, .slice a2' l2' e2', .slice a3' l3' e3'] : Array Value).toList := by rw [← he]
         rw [hxs] at hr; obtain ⟨y0, y1, y2, y3, y4, y5, y6, y7, y8, y9, y10⟩ := cells11_of hr; have y0 := keepc (HOB.out.trans HP.out) y0; have y1 := keepc (HOB.out.trans HP.out) y1; have y2 := keepc (HOB.out.trans HP.out) y2; have y3 := keepc (HOB.out.trans HP.out) y3; have y4 := keepc (HOB.out.trans HP.out) y4; have y5 := keepc (HOB.out.trans HP.out) y5; have y6 := keepc (HOB.out.trans HP.out) y6; have y7 := keepc (HOB.out.trans HP.out) y7; have y8 := keepc (HOB.out.trans HP.out) y8; have y9 := keepc (HOB.out.trans HP.out) y9; have y10 := keepc (HOB.out.trans HP.out) y10; obtain ⟨Q, hQ⟩ := eX (P ++ [32, 123] ++ fldB fs m); have hQ' : P ++ [32, 123] ++ fldB fs (m + 1) = Q ++ ([32] ++ ren (fdI fs[m])) := by rw [hfn, ← hQ]; simp only [List.append_assoc]
         rw [hQ] at hsl3 ⊢
         generalize ren (fdI fs[m]) = rv at *
         have HQ' := hid hQ'; have HREC := hid hrec; clear hQ hQ' hfn hfl hfl2 hrec he hxs hr hc hnl c0 c1 c3
         go_wp2_with fail
         refine HREC.out.mono ?_
         rintro e w6 ⟨rfl, o6⟩; have HO6 := hid (HP.out.trans o6); clear o6 c2 y0 y1 y2 y3 y4 y5 y6 y7 y8 y9 y10
         go_wp2_with fail
         go_roundw
         case rel => exact ⟨m + 1, by simp, by omega, by rw [HQ'.out]; simp only [← cat_list], HO6⟩
         case measure => simp [intOf]; omega
        ·have t5 : decide ((m : Int) < (LF : Int)) = false := decide_eq_false (by omega); have hmn : m = LF := by omega
         subst hmn; have hnx := HNX2.out; rw [HLF.out] at hnx; have HNX3 := hid hnx; have HPO := hid (HOB.out.trans HP.out); clear hnx; have hnx := HNX3.out; rw [show P ++ ([32, 123] ++ fldB fs m ++ [32, 125]) = P ++ [32, 123] ++ fldB fs m ++ [32, 125] from by simp only [List.append_assoc]] at hnx; obtain ⟨Q, hQ⟩ := eX (P ++ [32, 123] ++ fldB fs m); rw [hQ] at hsl3 hnx ⊢; have HNX4 := hid hnx; clear hnx hfl hnl c0 c1 c3 hQ HNX3
         go_wp2_with fail
         clear c2
         go_roundw
         case rel => exact ⟨i + 1, by simp, by omega, by rw [HA'.out, HNX4.out]; simp only [← cat_list], HPO⟩
         case measure => simp [intOf]; omega
    ·subst hk; have htr := td_ren3 nm fs ns (by first | exact hns | trivial); rw [htr] at hnx; have hnl := HNL.out; obtain ⟨pre, hpre⟩ := eX (acc ++ (if 0 < i then ren [.sp 32] else []) ++ ([117, 110, 105, 111, 110, 32] ++ nm) ++ [32, 61, 32]); have hnx2 : acc' = pre ++ ren (sepI [.sp 32, sgI 124, .sp 32] (nmsI ns)) ++ [] := by rw [hnx, ← hpre]; simp only [List.append_assoc]
     have hpl : pre.length ≤ 1000000000000 := by rw [hnx2] at hnl; simp only [List.length_append] at hnl; omega
     have hpn : (pre ++ ren (sepI [.sp 32, sgI 124, .sp 32] (nmsI ns))).length ≤ 1000000000000 := by rw [hnx2] at hnl; simp only [List.length_append] at hnl ⊢; omega
     have hnml : nm.length ≤ 1000000000000 := by rw [← hpre] at hpl; simp only [List.length_append] at hpl; omega
     rw [if_pos hz, sp_ren] at hpre; have HPRE := hid hpre; have HNX := hid hnx2; have HPN := hid hpn; clear hnx2 hpre hpn hnx htr hnl; obtain ⟨bA, hbA⟩ := eX (wr.heap.size); obtain ⟨wa, hwa⟩ := eX (wr.alloc (.cells #[.int .u8 3, .string ⟨nm.toArray⟩, .slice af LF cf, .slice an LN cn] 99)); have hx1 : wa.heap[bA]? = some (.cells #[.int .u8 3, .string ⟨nm.toArray⟩, .slice af LF cf, .slice an LN cn] 99 (0, 0)) := by rw [← hwa, ← hbA]; exact heap_new wr _
     have oa : Only (fun _ => False) wr wa := by rw [← hwa]; exact (Only.refl _ wr).alloc _
     obtain ⟨bB, hbB⟩ := eX (wa.heap.size); obtain ⟨wb, hwb⟩ := eX (wa.alloc (.cells #[.string ⟨#[]⟩, .string ⟨#[116, 121, 112, 101, 32]⟩, .string ⟨#[105, 110, 116, 101, 114, 102, 97, 99, 101, 32]⟩, .string ⟨#[117, 110, 105, 111, 110, 32]⟩, .string ⟨#[101, 110, 117, 109, 32]⟩, .string ⟨#[105, 110, 112, 117, 116, 32]⟩] 9)); have hx2 : wb.heap[bB]? = some (.cells #[.string ⟨#[]⟩, .string ⟨#[116, 121, 112, 101, 32]⟩, .string ⟨#[105, 110, 116, 101, 114, 102, 97, 99, 101, 32]⟩, .string ⟨#[117, 110, 105, 111, 110, 32]⟩, .string ⟨#[101, 110, 117, 109, 32]⟩, .string ⟨#[105, 110, 112, 117, 116, 32]⟩] 9 (0, 0)) := by rw [← hwb, ← hbB]; exact heap_new wa _
     have ob : Only (fun _ => False) wa wb := by rw [← hwb]; exact (Only.refl _ wa).alloc _
     obtain ⟨c0, c1, c2, c3, -⟩ := boxN4 hx1; have d1 : wb.cell? ⟨bB, 3, none⟩ = some (.string ⟨#[117, 110, 105, 111, 110, 32]⟩) := by simp [World.cell?, hx2]
     have c0 := keepc ob c0; have c1 := keepc ob c1; have c2 := keepc ob c2; have c3 := keepc ob c3; have HC := hid (fun (wx : World) (ox : Only (fun _ => False) wb wx) => And.intro (keepc ox c0) (And.intro (keepc ox c1) (And.intro (keepc ox c2) (keepc ox c3)))); have HOB := hid ((HO.out.trans oa).trans ob); have HWA := hid hwa; have HWB := hid hwb; have HBA := hid hbA; have HBB := hid hbB; clear hx1 hx2 oa ob hwa hwb hbA hbB
     go_upto_region 6 with (fail)
     rw [HWA.out, HBA.out]; clear e0 e1 e2 e3
     go_upto_region 9 with (fail)
     rw [HWB.out, HBB.out]
     go_quiet (fail)
     clear c0 c1 c2 c3 d1; have oq : Only (fun _ => False) wb (wb.drewN nq) := (Only.refl (fun _ => False) wb).drewN nq; obtain ⟨c0, c1, c2, c3⟩ := HC.out _ oq; have HQ := hid oq; clear oq
     generalize wb.drewN nq = wq at *
     go_wp2_with fail
     clear c0 c1 c2 c3
     go_loopw [3, 8] (fun x y w8 => ∃ j : Nat, y = .int .i64 (j : Int) ∧ j ≤ LN ∧ x = .string ⟨(pre ++ ren (sepI [.sp 32, sgI 124, .sp 32] ((nmsI ns).take j))).toArray⟩ ∧ Hid (Only (fun _ => False) wb w8)) (fun _ y _ => LN - (intOf y).toNat)
     case atStart => exact ⟨0, rfl, by omega, by rw [sep_zero, List.append_nil, ← HPRE.out]; simp only [← cat_list, ByteArray.append_assoc], HQ⟩
     case round =>
      clear HQ; obtain ⟨j, rfl, hj, rfl, HP⟩ := hrel; obtain ⟨c0, c1, c2, c3⟩ := HC.out _ HP.out; have hsl := sep_le [.sp 32, sgI 124, .sp 32] (nmsI ns) j; have hsl : (pre ++ ren (sepI [.sp 32, sgI 124, .sp 32] ((nmsI ns).take j))).length ≤ 1000000000000 := by have := HPN.out; rw [List.length_append] at this ⊢; omega
      by_cases hltj : j < LN
      ·have t3 : decide ((j : Int) < (LN : Int)) = true := decide_eq_true (by omega); have hj0 : (0 : Int) ≤ (j : Int) := by omega
       have hj1 : (j : Int) < (LN : Int) := by omega
       have hjl : j < ns.length := by rw [HLN.out]; exact hltj
       have hjm : j < (nmsI ns).length := by unfold nmsI; rw [List.length_map]; exact hjl
       have hnj := sep_next [.sp 32, sgI 124, .sp 32] (nmsI ns) j hjm; have hni : ren (nmsI ns)[j] = ns[j] := by simp [nmsI, ren, It.src, nmI]
       rw [hni] at hnj; have hsl2 := sep_le [.sp 32, sgI 124, .sp 32] (nmsI ns) (j + 1); obtain ⟨gd, od, ys, rfl, -, p1, p2⟩ := HNK.out j hjl; have := str_cell p2; subst this; have p1 := keepc (HOB.out.trans HP.out) (p1 0 _ rfl); rw [Nat.mul_one, Nat.add_zero] at p1; have hsn : ns[j].length ≤ 1000000000000 := by have := HPN.out; rw [List.length_append] at this; rw [hnj, List.length_append] at hsl2; omega
       obtain ⟨P, hP⟩ := eX (pre ++ ren (sepI [.sp 32, sgI 124, .sp 32] ((nmsI ns).take j))); have hP' : pre ++ ren (sepI [.sp 32, sgI 124, .sp 32] ((nmsI ns).take (j + 1))) = P ++ (if 0 < j then ren [.sp 32, sgI 124, .sp 32] else []) ++ ns[j] := by rw [hnj, ← hP]; simp only [List.append_assoc]
       rw [hP] at hsl ⊢; have HP' := hid hP'; clear hP hP' hnj hni hsl2 p2 hjm
       generalize ns[j] = sj at *
       clear hjl
       by_cases hzj : 0 < j
       ·have t4 : decide ((j : Int) > 0) = true := decide_eq_true (by omega); rw [if_pos hzj] at HP'; clear c0 c1 c2
        go_wp2_with fail
        clear c3 p1
        go_roundw
        case rel => exact ⟨j + 1, by simp, by omega, by rw [HP'.out]; simp only [← cat_list]; rfl, HP⟩
        case measure => simp [intOf]; omega
       have hzj := hzj; have t4 : decide ((j : Int) > 0) = false := decide_eq_false (by omega); rw [if_neg hzj, List.append_nil] at HP'; clear c0 c1 c2
       go_wp2_with fail
       clear c3 p1
       go_roundw
       case rel => exact ⟨j + 1, by simp, by omega, by rw [HP'.out]; simp only [← cat_list], HP⟩
       case measure => simp [intOf]; omega
      ·have t3 : decide ((j : Int) < (LN : Int)) = false := decide_eq_false (by omega); have hjn : j = LN := by omega
       have htk : (nmsI ns).take j = nmsI ns := List.take_of_length_le (by unfold nmsI; rw [List.length_map, HLN.out]; omega); rw [htk] at hsl ⊢; obtain ⟨P, hP⟩ := eX (pre ++ ren (sepI [.sp 32, sgI 124, .sp 32] (nmsI ns))); have hnx := HNX.out; rw [hP] at hsl hnx ⊢; have HNX2 := hid hnx; have HPO := hid (HOB.out.trans HP.out); subst hjn; clear hnx htk hP; clear c1 c2
       go_wp2_with fail
       clear c0 c3
       go_roundw
       case rel => exact ⟨i + 1, by simp, by omega, by rw [HA'.out, HNX2.out]; simp only [List.append_nil], HPO⟩
       case measure => simp [intOf]; omega
    ·subst hk; have htr := td_ren4 nm fs ns (by first | exact hns | trivial); rw [htr] at hnx; have hnl := HNL.out; obtain ⟨pre, hpre⟩ := eX (acc ++ (if 0 < i then ren [.sp 32] else []) ++ ([101, 110, 117, 109, 32] ++ nm) ++ [32, 123, 32]); have hnx2 : acc' = pre ++ ren (sepI [.sp 32] (nmsI ns)) ++ [32, 125] := by rw [hnx, ← hpre]; simp only [List.append_assoc]
     have hpl : pre.length ≤ 1000000000000 := by rw [hnx2] at hnl; simp only [List.length_append] at hnl; omega
     have hpn : (pre ++ ren (sepI [.sp 32] (nmsI ns))).length ≤ 1000000000000 := by rw [hnx2] at hnl; simp only [List.length_append] at hnl ⊢; omega
     have hnml : nm.length ≤ 1000000000000 := by rw [← hpre] at hpl; simp only [List.length_append] at hpl; omega
     rw [if_pos hz, sp_ren] at hpre; have HPRE := hid hpre; have HNX := hid hnx2; have HPN := hid hpn; clear hnx2 hpre hpn hnx htr hnl; obtain ⟨bA, hbA⟩ := eX (wr.heap.size); obtain ⟨wa, hwa⟩ := eX (wr.alloc (.cells #[.int .u8 4, .string ⟨nm.toArray⟩, .slice af LF cf, .slice an LN cn] 99)); have hx1 : wa.heap[bA]? = some (.cells #[.int .u8 4, .string ⟨nm.toArray⟩, .slice af LF cf, .slice an LN cn] 99 (0, 0)) := by rw [← hwa, ← hbA]; exact heap_new wr _
     have oa : Only (fun _ => False) wr wa := by rw [← hwa]; exact (Only.refl _ wr).alloc _
     obtain ⟨bB, hbB⟩ := eX (wa.heap.size); obtain ⟨wb, hwb⟩ := eX (wa.alloc (.cells #[.string ⟨#[]⟩, .string ⟨#[116, 121, 112, 101, 32]⟩, .string ⟨#[105, 110, 116, 101, 114, 102, 97, 99, 101, 32]⟩, .string ⟨#[117, 110, 105, 111, 110, 32]⟩, .string ⟨#[101, 110, 117, 109, 32]⟩, .string ⟨#[105, 110, 112, 117, 116, 32]⟩] 9)); have hx2 : wb.heap[bB]? = some (.cells #[.string ⟨#[]⟩, .string ⟨#[116, 121, 112, 101, 32]⟩, .string ⟨#[105, 110, 116, 101, 114, 102, 97, 99, 101, 32]⟩, .string ⟨#[117, 110, 105, 111, 110, 32]⟩, .string ⟨#[101, 110, 117, 109, 32]⟩, .string ⟨#[105, 110, 112, 117, 116, 32]⟩] 9 (0, 0)) := by rw [← hwb, ← hbB]; exact heap_new wa _
     have ob : Only (fun _ => False) wa wb := by rw [← hwb]; exact (Only.refl _ wa).alloc _
     obtain ⟨c0, c1, c2, c3, -⟩ := boxN4 hx1; have d1 : wb.cell? ⟨bB, 4, none⟩ = some (.string ⟨#[101, 110, 117, 109, 32]⟩) := by simp [World.cell?, hx2]
     have c0 := keepc ob c0; have c1 := keepc ob c1; have c2 := keepc ob c2; have c3 := keepc ob c3; have HC := hid (fun (wx : World) (ox : Only (fun _ => False) wb wx) => And.intro (keepc ox c0) (And.intro (keepc ox c1) (And.intro (keepc ox c2) (keepc ox c3)))); have HOB := hid ((HO.out.trans oa).trans ob); have HWA := hid hwa; have HWB := hid hwb; have HBA := hid hbA; have HBB := hid hbB; clear hx1 hx2 oa ob hwa hwb hbA hbB
     go_upto_region 6 with (fail)
     rw [HWA.out, HBA.out]; clear e0 e1 e2 e3
     go_upto_region 9 with (fail)
     rw [HWB.out, HBB.out]
     go_quiet (fail)
     clear c0 c1 c2 c3 d1; have oq : Only (fun _ => False) wb (wb.drewN nq) := (Only.refl (fun _ => False) wb).drewN nq; obtain ⟨c0, c1, c2, c3⟩ := HC.out _ oq; have HQ := hid oq; clear oq
     generalize wb.drewN nq = wq at *
     go_wp2_with fail
     clear c0 c1 c2 c3
     go_loopw [3, 8] (fun x y w8 => ∃ j : Nat, y = .int .i64 (j : Int) ∧ j ≤ LN ∧ x = .string ⟨(pre ++ ren (sepI [.sp 32] ((nmsI ns).take j))).toArray⟩ ∧ Hid (Only (fun _ => False) wb w8)) (fun _ y _ => LN - (intOf y).toNat)
     case atStart => exact ⟨0, rfl, by omega, by rw [sep_zero, List.append_nil, ← HPRE.out]; simp only [← cat_list, ByteArray.append_assoc], HQ⟩
     case round =>
      clear HQ; obtain ⟨j, rfl, hj, rfl, HP⟩ := hrel; obtain ⟨c0, c1, c2, c3⟩ := HC.out _ HP.out; have hsl := sep_le [.sp 32] (nmsI ns) j; have hsl : (pre ++ ren (sepI [.sp 32] ((nmsI ns).take j))).length ≤ 1000000000000 := by have := HPN.out; rw [List.length_append] at this ⊢; omega
      by_cases hltj : j < LN
      ·have t3 : decide ((j : Int) < (LN : Int)) = true := decide_eq_true (by omega); have hj0 : (0 : Int) ≤ (j : Int) := by omega
       have hj1 : (j : Int) < (LN : Int) := by omega
       have hjl : j < ns.length := by rw [HLN.out]; exact hltj
       have hjm : j < (nmsI ns).length := by unfold nmsI; rw [List.length_map]; exact hjl
       have hnj := sep_next [.sp 32] (nmsI ns) j hjm; have hni : ren (nmsI ns)[j] = ns[j] := by simp [nmsI, ren, It.src, nmI]
       rw [hni] at hnj; have hsl2 := sep_le [.sp 32] (nmsI ns) (j + 1); obtain ⟨gd, od, ys, rfl, -, p1, p2⟩ := HNK.out j hjl; have := str_cell p2; subst this; have p1 := keepc (HOB.out.trans HP.out) (p1 0 _ rfl); rw [Nat.mul_one, Nat.add_zero] at p1; have hsn : ns[j].length ≤ 1000000000000 := by have := HPN.out; rw [List.length_append] at this; rw [hnj, List.length_append] at hsl2; omega
       obtain ⟨P, hP⟩ := eX (pre ++ ren (sepI [.sp 32] ((nmsI ns).take j))); have hP' : pre ++ ren (sepI [.sp 32] ((nmsI ns).take (j + 1))) = P ++ (if 0 < j then ren [.sp 32] else []) ++ ns[j] := by rw [hnj, ← hP]; simp only [List.append_assoc]
       rw [hP] at hsl ⊢; have HP' := hid hP'; clear hP hP' hnj hni hsl2 p2 hjm
       generalize ns[j] = sj at *
       clear hjl
       by_cases hzj : 0 < j
       ·have t4 : decide ((j : Int) > 0) = true := decide_eq_true (by omega); rw [if_pos hzj] at HP'; clear c0 c1 c2
        go_wp2_with fail
        clear c3 p1
        go_roundw
        case rel => exact ⟨j + 1, by simp, by omega, by rw [HP'.out]; simp only [← cat_list]; rfl, HP⟩
        case measure => simp [intOf]; omega
       have hzj := hzj; have t4 : decide ((j : Int) > 0) = false := decide_eq_false (by omega); rw [if_neg hzj, List.append_nil] at HP'; clear c0 c1 c2
       go_wp2_with fail
       clear c3 p1
       go_roundw
       case rel => exact ⟨j + 1, by simp, by omega, by rw [HP'.out]; simp only [← cat_list], HP⟩
       case measure => simp [intOf]; omega
      ·have t3 : decide ((j : Int) < (LN : Int)) = false := decide_eq_false (by omega); have hjn : j = LN := by omega
       have htk : (nmsI ns).take j = nmsI ns := List.take_of_length_le (by unfold nmsI; rw [List.length_map, HLN.out]; omega); rw [htk] at hsl ⊢; obtain ⟨P, hP⟩ := eX (pre ++ ren (sepI [.sp 32] (nmsI ns))); have hnx := HNX.out; rw [hP] at hsl hnx ⊢; have HNX2 := hid hnx; have HPO := hid (HOB.out.trans HP.out); subst hjn; clear hnx htk hP; clear c1 c2
       go_wp2_with fail
       clear c0 c3
       go_roundw
       case rel => exact ⟨i + 1, by simp, by omega, by rw [HA'.out, HNX2.out]; simp only [← cat_list], HPO⟩
       case measure => simp [intOf]; omega
    ·subst hk; have htr := td_ren5 nm fs ns (by first | exact hns | trivial); rw [htr] at hnx; have hnl := HNL.out; obtain ⟨pre, hpre⟩ := eX (acc ++ (if 0 < i then ren [.sp 32] else []) ++ ([105, 110, 112, 117, 116, 32] ++ nm) ++ []); have hnx2 : acc' = pre ++ ren (sepI [.sp 32, sgI 124, .sp 32] (nmsI ns)) ++ ([32, 123] ++ fldB fs fs.length ++ [32, 125]) := by rw [hnx, ← hpre]; simp only [List.append_assoc]
     have hpl : pre.length ≤ 1000000000000 := by rw [hnx2] at hnl; simp only [List.length_append] at hnl; omega
     have hpn : (pre ++ ren (sepI [.sp 32, sgI 124, .sp 32] (nmsI ns))).length ≤ 1000000000000 := by rw [hnx2] at hnl; simp only [List.length_append] at hnl ⊢; omega
     have hnml : nm.length ≤ 1000000000000 := by rw [← hpre] at hpl; simp only [List.length_append] at hpl; omega
     rw [if_pos hz, sp_ren] at hpre; have HPRE := hid hpre; have HNX := hid hnx2; have HPN := hid hpn; clear hnx2 hpre hpn hnx htr hnl; obtain ⟨bA, hbA⟩ := eX (wr.heap.size); obtain ⟨wa, hwa⟩ := eX (wr.alloc (.cells #[.int .u8 5, .string ⟨nm.toArray⟩, .slice af LF cf, .slice an LN cn] 99)); have hx1 : wa.heap[bA]? = some (.cells #[.int .u8 5, .string ⟨nm.toArray⟩, .slice af LF cf, .slice an LN cn] 99 (0, 0)) := by rw [← hwa, ← hbA]; exact heap_new wr _
     have oa : Only (fun _ => False) wr wa := by rw [← hwa]; exact (Only.refl _ wr).alloc _
     obtain ⟨bB, hbB⟩ := eX (wa.heap.size); obtain ⟨wb, hwb⟩ := eX (wa.alloc (.cells #[.string ⟨#[]⟩, .string ⟨#[116, 121, 112, 101, 32]⟩, .string ⟨#[105, 110, 116, 101, 114, 102, 97, 99, 101, 32]⟩, .string ⟨#[117, 110, 105, 111, 110, 32]⟩, .string ⟨#[101, 110, 117, 109, 32]⟩, .string ⟨#[105, 110, 112, 117, 116, 32]⟩] 9)); have hx2 : wb.heap[bB]? = some (.cells #[.string ⟨#[]⟩, .string ⟨#[116, 121, 112, 101, 32]⟩, .string ⟨#[105, 110, 116, 101, 114, 102, 97, 99, 101, 32]⟩, .string ⟨#[117, 110, 105, 111, 110, 32]⟩, .string ⟨#[101, 110, 117, 109, 32]⟩, .string ⟨#[105, 110, 112, 117, 116, 32]⟩] 9 (0, 0)) := by rw [← hwb, ← hbB]; exact heap_new wa _
     have ob : Only (fun _ => False) wa wb := by rw [← hwb]; exact (Only.refl _ wa).alloc _
     obtain ⟨c0, c1, c2, c3, -⟩ := boxN4 hx1; have d1 : wb.cell? ⟨bB, 5, none⟩ = some (.string ⟨#[105, 110, 112, 117, 116, 32]⟩) := by simp [World.cell?, hx2]
     have c0 := keepc ob c0; have c1 := keepc ob c1; have c2 := keepc ob c2; have c3 := keepc ob c3; have HC := hid (fun (wx : World) (ox : Only (fun _ => False) wb wx) => And.intro (keepc ox c0) (And.intro (keepc ox c1) (And.intro (keepc ox c2) (keepc ox c3)))); have HOB := hid ((HO.out.trans oa).trans ob); have HWA := hid hwa; have HWB := hid hwb; have HBA := hid hbA; have HBB := hid hbB; clear hx1 hx2 oa ob hwa hwb hbA hbB
     go_upto_region 6 with (fail)
     rw [HWA.out, HBA.out]; clear e0 e1 e2 e3
     go_upto_region 9 with (fail)
     rw [HWB.out, HBB.out]
     go_quiet (fail)
     clear c0 c1 c2 c3 d1; have oq : Only (fun _ => False) wb (wb.drewN nq) := (Only.refl (fun _ => False) wb).drewN nq; obtain ⟨c0, c1, c2, c3⟩ := HC.out _ oq; have HQ := hid oq; clear oq
     generalize wb.drewN nq = wq at *
     go_wp2_with fail
     clear c0 c1 c2 c3
     go_loopw [3, 8] (fun x y w8 => ∃ j : Nat, y = .int .i64 (j : Int) ∧ j ≤ LN ∧ x = .string ⟨(pre ++ ren (sepI [.sp 32, sgI 124, .sp 32] ((nmsI ns).take j))).toArray⟩ ∧ Hid (Only (fun _ => False) wb w8)) (fun _ y _ => LN - (intOf y).toNat)
     case atStart => exact ⟨0, rfl, by omega, by rw [sep_zero, List.append_nil, ← HPRE.out]; simp only [← cat_list, List.append_nil], HQ⟩
     case round =>
      clear HQ; obtain ⟨j, rfl, hj, rfl, HP⟩ := hrel; obtain ⟨c0, c1, c2, c3⟩ := HC.out _ HP.out; have hsl := sep_le [.sp 32, sgI 124, .sp 32] (nmsI ns) j; have hsl : (pre ++ ren (sepI [.sp 32, sgI 124, .sp 32] ((nmsI ns).take j))).length ≤ 1000000000000 := by have := HPN.out; rw [List.length_append] at this ⊢; omega
      by_cases hltj : j < LN
      ·exact absurd hltj (by have := HLN.out; rw [hns] at this; simp at this; omega)
      ·have t3 : decide ((j : Int) < (LN : Int)) = false := decide_eq_false (by omega); have hjn : j = LN := by omega
       have htk : (nmsI ns).take j = nmsI ns := List.take_of_length_le (by unfold nmsI; rw [List.length_map, HLN.out]; omega); rw [htk] at hsl ⊢; obtain ⟨P, hP⟩ := eX (pre ++ ren (sepI [.sp 32, sgI 124, .sp 32] (nmsI ns))); have hnx := HNX.out; rw [hP] at hsl hnx ⊢; have HNX2 := hid hnx; have HPO := hid (HOB.out.trans HP.out); subst hjn; clear hnx htk hP; have hnl := HNL.out; rw [HNX2.out] at hnl; simp only [List.length_append] at hnl; have HNL2 := hid hnl; clear hnl
       go_wp2_with fail
       clear c0 c1 c2 c3
       go_loopw [3, 9] (fun x y w8 => ∃ j : Nat, y = .int .i64 (j : Int) ∧ j ≤ LF ∧ x = .string ⟨(P ++ [32, 123] ++ fldB fs j).toArray⟩ ∧ Hid (Only (fun _ => False) wb w8)) (fun _ y _ => LF - (intOf y).toNat)
       case atStart => exact ⟨0, rfl, by omega, by rw [show fldB fs 0 = [] from rfl, List.append_nil]; simp only [← cat_list], HP⟩
       case round =>
        clear HP HPO; obtain ⟨m, rfl, hm, rfl, HP⟩ := hrel; obtain ⟨c0, c1, c2, c3⟩ := HC.out _ HP.out; have hfl := fldB_le fs m; have hnl := HNL2.out; have hsl3 : (P ++ [32, 123] ++ fldB fs m).length ≤ 1000000000000 := by simp only [List.length_append]; omega
        by_cases hltm : m < LF
        ·have t5 : decide ((m : Int) < (LF : Int)) = true := decide_eq_true (by omega); have hm0 : (0 : Int) ≤ (m : Int) := by omega
         have hm1 : (m : Int) < (LF : Int) := by omega
         have hml : m < fs.length := by rw [HLF.out]; exact hltm
         have hfn := fldB_next fs m hml; have hfl2 := fldB_le fs (m + 1); rw [hfn] at hfl2; simp only [List.length_append] at hfl2; have hfr : (ren (fdI fs[m])).length ≤ 1000000000000 := by omega
         obtain ⟨gv, ov, xs, rfl, -, hr, hc⟩ := HFK.out m hml; have hrec := prF_any fs[m] (HWF.out fs[m] (List.getElem_mem hml)) G wr xs (CellsAt.only (HOB.out.trans HP.out) (fun _ _ h => h) _ _ hc) hfr; obtain ⟨m0', g', lg', eg', s1', a1', l1', e1', b1', h1', k', n', s2', a2', l2', e2', a3', l3', e3', he⟩ := fdC_form hc; rw [he] at hrec; have hxs : xs = (#[.string ⟨m0'.toArray⟩, .slice g' lg' eg', .string ⟨s1'.toArray⟩, .slice a1' l1' e1', .bool b1', .bool h1', .int .u8 (k' : Int), .int .i64 n', .string ⟨s2'.toArray⟩, .slice a2' l2' e2', .slice a3' l3' e3'] : Array Value).toList := by rw [← he]
         rw [hxs] at hr; obtain ⟨y0, y1, y2, y3, y4, y5, y6, y7, y8, y9, y10⟩ := cells11_of hr; have y0 := keepc (HOB.out.trans HP.out) y0; have y1 := keepc (HOB.out.trans HP.out) y1; have y2 := keepc (HOB.out.trans HP.out) y2; have y3 := keepc (HOB.out.trans HP.out) y3; have y4 := keepc (HOB.out.trans HP.out) y4; have y5 := keepc (HOB.out.trans HP.out) y5; have y6 := keepc (HOB.out.trans HP.out) y6; have y7 := keepc (HOB.out.trans HP.out) y7; have y8 := keepc (HOB.out.trans HP.out) y8; have y9 := keepc (HOB.out.trans HP.out) y9; have y10 := keepc (HOB.out.trans HP.out) y10; obtain ⟨Q, hQ⟩ := eX (P ++ [32, 123] ++ fldB fs m); have hQ' : P ++ [32, 123] ++ fldB fs (m + 1) = Q ++ ([32] ++ ren (fdI fs[m])) := by rw [hfn, ← hQ]; simp only [List.append_assoc]
         rw [hQ] at hsl3 ⊢
         generalize ren (fdI fs[m]) = rv at *
         have HQ' := hid hQ'; have HREC := hid hrec; clear hQ hQ' hfn hfl hfl2 hrec he hxs hr hc hnl c0 c1 c3
         go_wp2_with fail
         refine HREC.out.mono ?_
         rintro e w6 ⟨rfl, o6⟩; have HO6 := hid (HP.out.trans o6); clear o6 c2 y0 y1 y2 y3 y4 y5 y6 y7 y8 y9 y10
         go_wp2_with fail
         go_roundw
         case rel => exact ⟨m + 1, by simp, by omega, by rw [HQ'.out]; simp only [← cat_list], HO6⟩
         case measure => simp [intOf]; omega
        ·have t5 : decide ((m : Int) < (LF : Int)) = false := decide_eq_false (by omega); have hmn : m = LF := by omega
         subst hmn; have hnx := HNX2.out; rw [HLF.out] at hnx; have HNX3 := hid hnx; have HPO := hid (HOB.out.trans HP.out); clear hnx; have hnx := HNX3.out; rw [show P ++ ([32, 123] ++ fldB fs m ++ [32, 125]) = P ++ [32, 123] ++ fldB fs m ++ [32, 125] from by simp only [List.append_assoc]] at hnx; obtain ⟨Q, hQ⟩ := eX (P ++ [32, 123] ++ fldB fs m); rw [hQ] at hsl3 hnx ⊢; have HNX4 := hid hnx; clear hnx hfl hnl c0 c1 c3 hQ HNX3
         go_wp2_with fail
         clear c2
         go_roundw
         case rel => exact ⟨i + 1, by simp, by omega, by rw [HA'.out, HNX4.out]; simp only [← cat_list], HPO⟩
         case measure => simp [intOf]; omega
   ·have tz : decide ((i : Int) > 0) = false := decide_eq_false (by omega)
    rcases hkk with hk | ⟨hk, hns⟩ | hk | hk | ⟨hk, hns⟩
    ·subst hk
     by_cases hns : ns = []
     ·have t2 : decide ((LN : Int) > 0) = false := decide_eq_false (by have := HLN.out; rw [hns] at this; simp at this; omega); have hln0 : ¬ 0 < LN := by have := HLN.out; rw [hns] at this; simp at this; omega
      have htr := td_ren1b nm fs ns (by first | exact hns | trivial); rw [htr] at hnx; have hnl := HNL.out; obtain ⟨pre, hpre⟩ := eX (acc ++ (if 0 < i then ren [.sp 32] else []) ++ ([116, 121, 112, 101, 32] ++ nm) ++ []); have hnx2 : acc' = pre ++ ren (sepI [.sp 32, sgI 38, .sp 32] (nmsI ns)) ++ ([32, 123] ++ fldB fs fs.length ++ [32, 125]) := by rw [hnx, ← hpre]; simp only [List.append_assoc]
      have hpl : pre.length ≤ 1000000000000 := by rw [hnx2] at hnl; simp only [List.length_append] at hnl; omega
      have hpn : (pre ++ ren (sepI [.sp 32, sgI 38, .sp 32] (nmsI ns))).length ≤ 1000000000000 := by rw [hnx2] at hnl; simp only [List.length_append] at hnl ⊢; omega
      have hnml : nm.length ≤ 1000000000000 := by rw [← hpre] at hpl; simp only [List.length_append] at hpl; omega
      rw [if_neg hz, List.append_nil] at hpre; have HPRE := hid hpre; have HNX := hid hnx2; have HPN := hid hpn; clear hnx2 hpre hpn hnx htr hnl; obtain ⟨bA, hbA⟩ := eX (wr.heap.size); obtain ⟨wa, hwa⟩ := eX (wr.alloc (.cells #[.int .u8 1, .string ⟨nm.toArray⟩, .slice af LF cf, .slice an LN cn] 99)); have hx1 : wa.heap[bA]? = some (.cells #[.int .u8 1, .string ⟨nm.toArray⟩, .slice af LF cf, .slice an LN cn] 99 (0, 0)) := by rw [← hwa, ← hbA]; exact heap_new wr _
      have oa : Only (fun _ => False) wr wa := by rw [← hwa]; exact (Only.refl _ wr).alloc _
      obtain ⟨bB, hbB⟩ := eX (wa.heap.size); obtain ⟨wb, hwb⟩ := eX (wa.alloc (.cells #[.string ⟨#[]⟩, .string ⟨#[116, 121, 112, 101, 32]⟩, .string ⟨#[105, 110, 116, 101, 114, 102, 97, 99, 101, 32]⟩, .string ⟨#[117, 110, 105, 111, 110, 32]⟩, .string ⟨#[101, 110, 117, 109, 32]⟩, .string ⟨#[105, 110, 112, 117, 116, 32]⟩] 9)); have hx2 : wb.heap[bB]? = some (.cells #[.string ⟨#[]⟩, .string ⟨#[116, 121, 112, 101, 32]⟩, .string ⟨#[105, 110, 116, 101, 114, 102, 97, 99, 101, 32]⟩, .string ⟨#[117, 110, 105, 111, 110, 32]⟩, .string ⟨#[101, 110, 117, 109, 32]⟩, .string ⟨#[105, 110, 112, 117, 116, 32]⟩] 9 (0, 0)) := by rw [← hwb, ← hbB]; exact heap_new wa _
      have ob : Only (fun _ => False) wa wb := by rw [← hwb]; exact (Only.refl _ wa).alloc _
      obtain ⟨c0, c1, c2, c3, -⟩ := boxN4 hx1; have d1 : wb.cell? ⟨bB, 1, none⟩ = some (.string ⟨#[116, 121, 112, 101, 32]⟩) := by simp [World.cell?, hx2]
      have c0 := keepc ob c0; have c1 := keepc ob c1; have c2 := keepc ob c2; have c3 := keepc ob c3; have HC := hid (fun (wx : World) (ox : Only (fun _ => False) wb wx) => And.intro (keepc ox c0) (And.intro (keepc ox c1) (And.intro (keepc ox c2) (keepc ox c3)))); have HOB := hid ((HO.out.trans oa).trans ob); have HWA := hid hwa; have HWB := hid hwb; have HBA := hid hbA; have HBB := hid hbB; clear hx1 hx2 oa ob hwa hwb hbA hbB
      go_upto_region 6 with (fail)
      rw [HWA.out, HBA.out]; clear e0 e1 e2 e3
      go_upto_region 9 with (fail)
      rw [HWB.out, HBB.out]
      go_quiet (fail)
      clear c0 c1 c2 c3 d1; have oq : Only (fun _ => False) wb (wb.drewN nq) := (Only.refl (fun _ => False) wb).drewN nq; obtain ⟨c0, c1, c2, c3⟩ := HC.out _ oq; have HQ := hid oq; clear oq
      generalize wb.drewN nq = wq at *
      go_wp2_with fail
      clear c0 c1 c2 c3
      go_loopw [3, 8] (fun x y w8 => ∃ j : Nat, y = .int .i64 (j : Int) ∧ j ≤ LN ∧ x = .string ⟨(pre ++ ren (sepI [.sp 32, sgI 38, .sp 32] ((nmsI ns).take j))).toArray⟩ ∧ Hid (Only (fun _ => False) wb w8)) (fun _ y _ => LN - (intOf y).toNat)
      case atStart => exact ⟨0, rfl, by omega, by rw [sep_zero, List.append_nil, ← HPRE.out]; simp only [← cat_list, List.append_nil], HQ⟩
      case round =>
       clear HQ; obtain ⟨j, rfl, hj, rfl, HP⟩ := hrel; obtain ⟨c0, c1, c2, c3⟩ := HC.out _ HP.out; have hsl := sep_le [.sp 32, sgI 38, .sp 32] (nmsI ns) j; have hsl : (pre ++ ren (sepI [.sp 32, sgI 38, .sp 32] ((nmsI ns).take j))).length ≤ 1000000000000 := by have := HPN.out; rw [List.length_append] at this ⊢; omega
       by_cases hltj : j < LN
       ·exact absurd hltj (by have := HLN.out; rw [hns] at this; simp at this; omega)
       ·have t3 : decide ((j : Int) < (LN : Int)) = false := decide_eq_false (by omega); have hjn : j = LN := by omega
        have htk : (nmsI ns).take j = nmsI ns := List.take_of_length_le (by unfold nmsI; rw [List.length_map, HLN.out]; omega); rw [htk] at hsl ⊢; obtain ⟨P, hP⟩ := eX (pre ++ ren (sepI [.sp 32, sgI 38, .sp 32] (nmsI ns))); have hnx := HNX.out; rw [hP] at hsl hnx ⊢; have HNX2 := hid hnx; have HPO := hid (HOB.out.trans HP.out); subst hjn; clear hnx htk hP; have hnl := HNL.out; rw [HNX2.out] at hnl; simp only [List.length_append] at hnl; have HNL2 := hid hnl; clear hnl
        go_wp2_with fail
        clear c0 c1 c2 c3
        go_loopw [3, 9] (fun x y w8 => ∃ j : Nat, y = .int .i64 (j : Int) ∧ j ≤ LF ∧ x = .string ⟨(P ++ [32, 123] ++ fldB fs j).toArray⟩ ∧ Hid (Only (fun _ => False) wb w8)) (fun _ y _ => LF - (intOf y).toNat)
        case atStart => exact ⟨0, rfl, by omega, by rw [show fldB fs 0 = [] from rfl, List.append_nil]; simp only [← cat_list], HP⟩
        case round =>
         clear HP HPO; obtain ⟨m, rfl, hm, rfl, HP⟩ := hrel; obtain ⟨c0, c1, c2, c3⟩ := HC.out _ HP.out; have hfl := fldB_le fs m; have hnl := HNL2.out; have hsl3 : (P ++ [32, 123] ++ fldB fs m).length ≤ 1000000000000 := by simp only [List.length_append]; omega
         by_cases hltm : m < LF
         ·have t5 : decide ((m : Int) < (LF : Int)) = true := decide_eq_true (by omega); have hm0 : (0 : Int) ≤ (m : Int) := by omega
          have hm1 : (m : Int) < (LF : Int) := by omega
          have hml : m < fs.length := by rw [HLF.out]; exact hltm
          have hfn := fldB_next fs m hml; have hfl2 := fldB_le fs (m + 1); rw [hfn] at hfl2; simp only [List.length_append] at hfl2; have hfr : (ren (fdI fs[m])).length ≤ 1000000000000 := by omega
          obtain ⟨gv, ov, xs, rfl, -, hr, hc⟩ := HFK.out m hml; have hrec := prF_any fs[m] (HWF.out fs[m] (List.getElem_mem hml)) G wr xs (CellsAt.only (HOB.out.trans HP.out) (fun _ _ h => h) _ _ hc) hfr; obtain ⟨m0', g', lg', eg', s1', a1', l1', e1', b1', h1', k', n', s2', a2', l2', e2', a3', l3', e3', he⟩ := fdC_form hc; rw [he] at hrec; have hxs : xs = (#[.string ⟨m0'.toArray⟩, .slice g' lg' eg', .string ⟨s1'.toArray⟩, .slice a1' l1' e1', .bool b1', .bool h1', .int .u8 (k' : Int), .int .i64 n', .string ⟨s2'.toArray⟩, .slice a2' l2' e2', .slice a3' l3' e3'] : Array Value).toList := by rw [← he]
          rw [hxs] at hr; obtain ⟨y0, y1, y2, y3, y4, y5, y6, y7, y8, y9, y10⟩ := cells11_of hr; have y0 := keepc (HOB.out.trans HP.out) y0; have y1 := keepc (HOB.out.trans HP.out) y1; have y2 := keepc (HOB.out.trans HP.out) y2; have y3 := keepc (HOB.out.trans HP.out) y3; have y4 := keepc (HOB.out.trans HP.out) y4; have y5 := keepc (HOB.out.trans HP.out) y5; have y6 := keepc (HOB.out.trans HP.out) y6; have y7 := keepc (HOB.out.trans HP.out) y7; have y8 := keepc (HOB.out.trans HP.out) y8; have y9 := keepc (HOB.out.trans HP.out) y9; have y10 := keepc (HOB.out.trans HP.out) y10; obtain ⟨Q, hQ⟩ := eX (P ++ [32, 123] ++ fldB fs m); have hQ' : P ++ [32, 123] ++ fldB fs (m + 1) = Q ++ ([32] ++ ren (fdI fs[m])) := by rw [hfn, ← hQ]; simp only [List.append_assoc]
          rw [hQ] at hsl3 ⊢
          generalize ren (fdI fs[m]) = rv at *
          have HQ' := hid hQ'; have HREC := hid hrec; clear hQ hQ' hfn hfl hfl2 hrec he hxs hr hc hnl c0 c1 c3
          go_wp2_with fail
          refine HREC.out.mono ?_
          rintro e w6 ⟨rfl, o6⟩; have HO6 := hid (HP.out.trans o6); clear o6 c2 y0 y1 y2 y3 y4 y5 y6 y7 y8 y9 y10
          go_wp2_with fail
          go_roundw
          case rel => exact ⟨m + 1, by simp, by omega, by rw [HQ'.out]; simp only [← cat_list], HO6⟩
          case measure => simp [intOf]; omega
         ·have t5 : decide ((m : Int) < (LF : Int)) = false := decide_eq_false (by omega); have hmn : m = LF := by omega
          subst hmn; have hnx := HNX2.out; rw [HLF.out] at hnx; have HNX3 := hid hnx; have HPO := hid (HOB.out.trans HP.out); clear hnx; have hnx := HNX3.out; rw [show P ++ ([32, 123] ++ fldB fs m ++ [32, 125]) = P ++ [32, 123] ++ fldB fs m ++ [32, 125] from by simp only [List.append_assoc]] at hnx; obtain ⟨Q, hQ⟩ := eX (P ++ [32, 123] ++ fldB fs m); rw [hQ] at hsl3 hnx ⊢; have HNX4 := hid hnx; clear hnx hfl hnl c0 c1 c3 hQ HNX3
          go_wp2_with fail
          clear c2
          go_roundw
          case rel => exact ⟨i + 1, by simp, by omega, by rw [HA'.out, HNX4.out]; simp only [← cat_list], HPO⟩
          case measure => simp [intOf]; omega
     ·have t2 : decide ((LN : Int) > 0) = true := decide_eq_true (by have := HLN.out; have := List.length_pos_iff.2 hns; omega); have hln0 : 0 < LN := by have := HLN.out; have := List.length_pos_iff.2 hns; omega
      have htr := td_ren1a nm fs ns (by first | exact hns | trivial); rw [htr] at hnx; have hnl := HNL.out; obtain ⟨pre, hpre⟩ := eX (acc ++ (if 0 < i then ren [.sp 32] else []) ++ ([116, 121, 112, 101, 32] ++ nm) ++ [32, 105, 109, 112, 108, 101, 109, 101, 110, 116, 115, 32]); have hnx2 : acc' = pre ++ ren (sepI [.sp 32, sgI 38, .sp 32] (nmsI ns)) ++ ([32, 123] ++ fldB fs fs.length ++ [32, 125]) := by rw [hnx, ← hpre]; simp only [List.append_assoc]
      have hpl : pre.length ≤ 1000000000000 := by rw [hnx2] at hnl; simp only [List.length_append] at hnl; omega
      have hpn : (pre ++ ren (sepI [.sp 32, sgI 38, .sp 32] (nmsI ns))).length ≤ 1000000000000 := by rw [hnx2] at hnl; simp only [List.length_append] at hnl ⊢; omega
      have hnml : nm.length ≤ 1000000000000 := by rw [← hpre] at hpl; simp only [List.length_append] at hpl; omega
      rw [if_neg hz, List.append_nil] at hpre; have HPRE := hid hpre; have HNX := hid hnx2; have HPN := hid hpn; clear hnx2 hpre hpn hnx htr hnl; obtain ⟨bA, hbA⟩ := eX (wr.heap.size); obtain ⟨wa, hwa⟩ := eX (wr.alloc (.cells #[.int .u8 1, .string ⟨nm.toArray⟩, .slice af LF cf, .slice an LN cn] 99)); have hx1 : wa.heap[bA]? = some (.cells #[.int .u8 1, .string ⟨nm.toArray⟩, .slice af LF cf, .slice an LN cn] 99 (0, 0)) := by rw [← hwa, ← hbA]; exact heap_new wr _
      have oa : Only (fun _ => False) wr wa := by rw [← hwa]; exact (Only.refl _ wr).alloc _
      obtain ⟨bB, hbB⟩ := eX (wa.heap.size); obtain ⟨wb, hwb⟩ := eX (wa.alloc (.cells #[.string ⟨#[]⟩, .string ⟨#[116, 121, 112, 101, 32]⟩, .string ⟨#[105, 110, 116, 101, 114, 102, 97, 99, 101, 32]⟩, .string ⟨#[117, 110, 105, 111, 110, 32]⟩, .string ⟨#[101, 110, 117, 109, 32]⟩, .string ⟨#[105, 110, 112, 117, 116, 32]⟩] 9)); have hx2 : wb.heap[bB]? = some (.cells #[.string ⟨#[]⟩, .string ⟨#[116, 121, 112, 101, 32]⟩, .string ⟨#[105, 110, 116, 101, 114, 102, 97, 99, 101, 32]⟩, .string ⟨#[117, 110, 105, 111, 110, 32]⟩, .string ⟨#[101, 110, 117, 109, 32]⟩, .string ⟨#[105, 110, 112, 117, 116, 32]⟩] 9 (0, 0)) := by rw [← hwb, ← hbB]; exact heap_new wa _
      have ob : Only (fun _ => False) wa wb := by rw [← hwb]; exact (Only.refl _ wa).alloc _
      obtain ⟨c0, c1, c2, c3, -⟩ := boxN4 hx1; have d1 : wb.cell? ⟨bB, 1, none⟩ = some (.string ⟨#[116, 121, 112, 101, 32]⟩) := by simp [World.cell?, hx2]
      have c0 := keepc ob c0; have c1 := keepc ob c1; have c2 := keepc ob c2; have c3 := keepc ob c3; have HC := hid (fun (wx : World) (ox : Only (fun _ => False) wb wx) => And.intro (keepc ox c0) (And.intro (keepc ox c1) (And.intro (keepc ox c2) (keepc ox c3)))); have HOB := hid ((HO.out.trans oa).trans ob); have HWA := hid hwa; have HWB := hid hwb; have HBA := hid hbA; have HBB := hid hbB; clear hx1 hx2 oa ob hwa hwb hbA hbB
      go_upto_region 6 with (fail)
      rw [HWA.out, HBA.out]; clear e0 e1 e2 e3
      go_upto_region 9 with (fail)
      rw [HWB.out, HBB.out]
      go_quiet (fail)
      clear c0 c1 c2 c3 d1; have oq : Only (fun _ => False) wb (wb.drewN nq) := (Only.refl (fun _ => False) wb).drewN nq; obtain ⟨c0, c1, c2, c3⟩ := HC.out _ oq; have HQ := hid oq; clear oq
      generalize wb.drewN nq = wq at *
      go_wp2_with fail
      clear c0 c1 c2 c3
      go_loopw [3, 8] (fun x y w8 => ∃ j : Nat, y = .int .i64 (j : Int) ∧ j ≤ LN ∧ x = .string ⟨(pre ++ ren (sepI [.sp 32, sgI 38, .sp 32] ((nmsI ns).take j))).toArray⟩ ∧ Hid (Only (fun _ => False) wb w8)) (fun _ y _ => LN - (intOf y).toNat)
      case atStart => exact ⟨0, rfl, by omega, by rw [sep_zero, List.append_nil, ← HPRE.out]; simp only [← cat_list, ByteArray.append_assoc], HQ⟩
      case round =>
       clear HQ; obtain ⟨j, rfl, hj, rfl, HP⟩ := hrel; obtain ⟨c0, c1, c2, c3⟩ := HC.out _ HP.out; have hsl := sep_le [.sp 32, sgI 38, .sp 32] (nmsI ns) j; have hsl : (pre ++ ren (sepI [.sp 32, sgI 38, .sp 32] ((nmsI ns).take j))).length ≤ 1000000000000 := by have := HPN.out; rw [List.length_append] at this ⊢; omega
       by_cases hltj : j < LN
       ·have t3 : decide ((j : Int) < (LN : Int)) = true := decide_eq_true (by omega); have hj0 : (0 : Int) ≤ (j : Int) := by omega
        have hj1 : (j : Int) < (LN : Int) := by omega
        have hjl : j < ns.length := by rw [HLN.out]; exact hltj
        have hjm : j < (nmsI ns).length := by unfold nmsI; rw [List.length_map]; exact hjl
        have hnj := sep_next [.sp 32, sgI 38, .sp 32] (nmsI ns) j hjm; have hni : ren (nmsI ns)[j] = ns[j] := by simp [nmsI, ren, It.src, nmI]
        rw [hni] at hnj; have hsl2 := sep_le [.sp 32, sgI 38, .sp 32] (nmsI ns) (j + 1); obtain ⟨gd, od, ys, rfl, -, p1, p2⟩ := HNK.out j hjl; have := str_cell p2; subst this; have p1 := keepc (HOB.out.trans HP.out) (p1 0 _ rfl); rw [Nat.mul_one, Nat.add_zero] at p1; have hsn : ns[j].length ≤ 1000000000000 := by have := HPN.out; rw [List.length_append] at this; rw [hnj, List.length_append] at hsl2; omega
        obtain ⟨P, hP⟩ := eX (pre ++ ren (sepI [.sp 32, sgI 38, .sp 32] ((nmsI ns).take j))); have hP' : pre ++ ren (sepI [.sp 32, sgI 38, .sp 32] ((nmsI ns).take (j + 1))) = P ++ (if 0 < j then ren [.sp 32, sgI 38, .sp 32] else []) ++ ns[j] := by rw [hnj, ← hP]; simp only [List.append_assoc]
        rw [hP] at hsl ⊢; have HP' := hid hP'; clear hP hP' hnj hni hsl2 p2 hjm
        generalize ns[j] = sj at *
        clear hjl
        by_cases hzj : 0 < j
        ·have t4 : decide ((j : Int) > 0) = true := decide_eq_true (by omega); rw [if_pos hzj] at HP'; clear c0 c1 c2
         go_wp2_with fail
         clear c3 p1
         go_roundw
         case rel => exact ⟨j + 1, by simp, by omega, by rw [HP'.out]; simp only [← cat_list]; rfl, HP⟩
         case measure => simp [intOf]; omega
        have hzj := hzj; have t4 : decide ((j : Int) > 0) = false := decide_eq_false (by omega); rw [if_neg hzj, List.append_nil] at HP'; clear c0 c1 c2
        go_wp2_with fail
        clear c3 p1
        go_roundw
        case rel => exact ⟨j + 1, by simp, by omega, by rw [HP'.out]; simp only [← cat_list], HP⟩
        case measure => simp [intOf]; omega
       ·have t3 : decide ((j : Int) < (LN : Int)) = false := decide_eq_false (by omega); have hjn : j = LN := by omega
        have htk : (nmsI ns).take j = nmsI ns := List.take_of_length_le (by unfold nmsI; rw [List.length_map, HLN.out]; omega); rw [htk] at hsl ⊢; obtain ⟨P, hP⟩ := eX (pre ++ ren (sepI [.sp 32, sgI 38, .sp 32] (nmsI ns))); have hnx := HNX.out; rw [hP] at hsl hnx ⊢; have HNX2 := hid hnx; have HPO := hid (HOB.out.trans HP.out); subst hjn; clear hnx htk hP; have hnl := HNL.out; rw [HNX2.out] at hnl; simp only [List.length_append] at hnl; have HNL2 := hid hnl; clear hnl
        go_wp2_with fail
        clear c0 c1 c2 c3
        go_loopw [3, 9] (fun x y w8 => ∃ j : Nat, y = .int .i64 (j : Int) ∧ j ≤ LF ∧ x = .string ⟨(P ++ [32, 123] ++ fldB fs j).toArray⟩ ∧ Hid (Only (fun _ => False) wb w8)) (fun _ y _ => LF - (intOf y).toNat)
        case atStart => exact ⟨0, rfl, by omega, by rw [show fldB fs 0 = [] from rfl, List.append_nil]; simp only [← cat_list], HP⟩
        case round =>
         clear HP HPO; obtain ⟨m, rfl, hm, rfl, HP⟩ := hrel; obtain ⟨c0, c1, c2, c3⟩ := HC.out _ HP.out; have hfl := fldB_le fs m; have hnl := HNL2.out; have hsl3 : (P ++ [32, 123] ++ fldB fs m).length ≤ 1000000000000 := by simp only [List.length_append]; omega
         by_cases hltm : m < LF
         ·have t5 : decide ((m : Int) < (LF : Int)) = true := decide_eq_true (by omega); have hm0 : (0 : Int) ≤ (m : Int) := by omega
          have hm1 : (m : Int) < (LF : Int) := by omega
          have hml : m < fs.length := by rw [HLF.out]; exact hltm
          have hfn := fldB_next fs m hml; have hfl2 := fldB_le fs (m + 1); rw [hfn] at hfl2; simp only [List.length_append] at hfl2; have hfr : (ren (fdI fs[m])).length ≤ 1000000000000 := by omega
          obtain ⟨gv, ov, xs, rfl, -, hr, hc⟩ := HFK.out m hml; have hrec := prF_any fs[m] (HWF.out fs[m] (List.getElem_mem hml)) G wr xs (CellsAt.only (HOB.out.trans HP.out) (fun _ _ h => h) _ _ hc) hfr; obtain ⟨m0', g', lg', eg', s1', a1', l1', e1', b1', h1', k', n', s2', a2', l2', e2', a3', l3', e3', he⟩ := fdC_form hc; rw [he] at hrec; have hxs : xs = (#[.string ⟨m0'.toArray⟩, .slice g' lg' eg', .string ⟨s1'.toArray⟩, .slice a1' l1' e1', .bool b1', .bool h1', .int .u8 (k' : Int), .int .i64 n', .string ⟨s2'.toArray⟩, .slice a2' l2' e2', .slice a3' l3' e3'] : Array Value).toList := by rw [← he]
          rw [hxs] at hr; obtain ⟨y0, y1, y2, y3, y4, y5, y6, y7, y8, y9, y10⟩ := cells11_of hr; have y0 := keepc (HOB.out.trans HP.out) y0; have y1 := keepc (HOB.out.trans HP.out) y1; have y2 := keepc (HOB.out.trans HP.out) y2; have y3 := keepc (HOB.out.trans HP.out) y3; have y4 := keepc (HOB.out.trans HP.out) y4; have y5 := keepc (HOB.out.trans HP.out) y5; have y6 := keepc (HOB.out.trans HP.out) y6; have y7 := keepc (HOB.out.trans HP.out) y7; have y8 := keepc (HOB.out.trans HP.out) y8; have y9 := keepc (HOB.out.trans HP.out) y9; have y10 := keepc (HOB.out.trans HP.out) y10; obtain ⟨Q, hQ⟩ := eX (P ++ [32, 123] ++ fldB fs m); have hQ' : P ++ [32, 123] ++ fldB fs (m + 1) = Q ++ ([32] ++ ren (fdI fs[m])) := by rw [hfn, ← hQ]; simp only [List.append_assoc]
          rw [hQ] at hsl3 ⊢
          generalize ren (fdI fs[m]) = rv at *
          have HQ' := hid hQ'; have HREC := hid hrec; clear hQ hQ' hfn hfl hfl2 hrec he hxs hr hc hnl c0 c1 c3
          go_wp2_with fail
          refine HREC.out.mono ?_
          rintro e w6 ⟨rfl, o6⟩; have HO6 := hid (HP.out.trans o6); clear o6 c2 y0 y1 y2 y3 y4 y5 y6 y7 y8 y9 y10
          go_wp2_with fail
          go_roundw
          case rel => exact ⟨m + 1, by simp, by omega, by rw [HQ'.out]; simp only [← cat_list], HO6⟩
          case measure => simp [intOf]; omega
         ·have t5 : decide ((m : Int) < (LF : Int)) = false := decide_eq_false (by omega); have hmn : m = LF := by omega
          subst hmn; have hnx := HNX2.out; rw [HLF.out] at hnx; have HNX3 := hid hnx; have HPO := hid (HOB.out.trans HP.out); clear hnx; have hnx := HNX3.out; rw [show P ++ ([32, 123] ++ fldB fs m ++ [32, 125]) = P ++ [32, 123] ++ fldB fs m ++ [32, 125] from by simp only [List.append_assoc]] at hnx; obtain ⟨Q, hQ⟩ := eX (P ++ [32, 123] ++ fldB fs m); rw [hQ] at hsl3 hnx ⊢; have HNX4 := hid hnx; clear hnx hfl hnl c0 c1 c3 hQ HNX3
          go_wp2_with fail
          clear c2
          go_roundw
          case rel => exact ⟨i + 1, by simp, by omega, by rw [HA'.out, HNX4.out]; simp only [← cat_list], HPO⟩
          case measure => simp [intOf]; omega
    ·subst hk; have htr := td_ren2 nm fs ns (by first | exact hns | trivial); rw [htr] at hnx; have hnl := HNL.out; obtain ⟨pre, hpre⟩ := eX (acc ++ (if 0 < i then ren [.sp 32] else []) ++ ([105, 110, 116, 101, 114, 102, 97, 99, 101, 32] ++ nm) ++ []); have hnx2 : acc' = pre ++ ren (sepI [.sp 32, sgI 124, .sp 32] (nmsI ns)) ++ ([32, 123] ++ fldB fs fs.length ++ [32, 125]) := by rw [hnx, ← hpre]; simp only [List.append_assoc]
     have hpl : pre.length ≤ 1000000000000 := by rw [hnx2] at hnl; simp only [List.length_append] at hnl; omega
     have hpn : (pre ++ ren (sepI [.sp 32, sgI 124, .sp 32] (nmsI ns))).length ≤ 1000000000000 := by rw [hnx2] at hnl; simp only [List.length_append] at hnl ⊢; omega
     have hnml : nm.length ≤ 1000000000000 := by rw [← hpre] at hpl; simp only [List.length_append] at hpl; omega
     rw [if_neg hz, List.append_nil] at hpre; have HPRE := hid hpre; have HNX := hid hnx2; have HPN := hid hpn; clear hnx2 hpre hpn hnx htr hnl; obtain ⟨bA, hbA⟩ := eX (wr.heap.size); obtain ⟨wa, hwa⟩ := eX (wr.alloc (.cells #[.int .u8 2, .string ⟨nm.toArray⟩, .slice af LF cf, .slice an LN cn] 99)); have hx1 : wa.heap[bA]? = some (.cells #[.int .u8 2, .string ⟨nm.toArray⟩, .slice af LF cf, .slice an LN cn] 99 (0, 0)) := by rw [← hwa, ← hbA]; exact heap_new wr _
     have oa : Only (fun _ => False) wr wa := by rw [← hwa]; exact (Only.refl _ wr).alloc _
     obtain ⟨bB, hbB⟩ := eX (wa.heap.size); obtain ⟨wb, hwb⟩ := eX (wa.alloc (.cells #[.string ⟨#[]⟩, .string ⟨#[116, 121, 112, 101, 32]⟩, .string ⟨#[105, 110, 116, 101, 114, 102, 97, 99, 101, 32]⟩, .string ⟨#[117, 110, 105, 111, 110, 32]⟩, .string ⟨#[101, 110, 117, 109, 32]⟩, .string ⟨#[105, 110, 112, 117, 116, 32]⟩] 9)); have hx2 : wb.heap[bB]? = some (.cells #[.string ⟨#[]⟩, .string ⟨#[116, 121, 112, 101, 32]⟩, .string ⟨#[105, 110, 116, 101, 114, 102, 97, 99, 101, 32]⟩, .string ⟨#[117, 110, 105, 111, 110, 32]⟩, .string ⟨#[101, 110, 117, 109, 32]⟩, .string ⟨#[105, 110, 112, 117, 116, 32]⟩] 9 (0, 0)) := by rw [← hwb, ← hbB]; exact heap_new wa _
     have ob : Only (fun _ => False) wa wb := by rw [← hwb]; exact (Only.refl _ wa).alloc _
     obtain ⟨c0, c1, c2, c3, -⟩ := boxN4 hx1; have d1 : wb.cell? ⟨bB, 2, none⟩ = some (.string ⟨#[105, 110, 116, 101, 114, 102, 97, 99, 101, 32]⟩) := by simp [World.cell?, hx2]
     have c0 := keepc ob c0; have c1 := keepc ob c1; have c2 := keepc ob c2; have c3 := keepc ob c3; have HC := hid (fun (wx : World) (ox : Only (fun _ => False) wb wx) => And.intro (keepc ox c0) (And.intro (keepc ox c1) (And.intro (keepc ox c2) (keepc ox c3)))); have HOB := hid ((HO.out.trans oa).trans ob); have HWA := hid hwa; have HWB := hid hwb; have HBA := hid hbA; have HBB := hid hbB; clear hx1 hx2 oa ob hwa hwb hbA hbB
     go_upto_region 6 with (fail)
     rw [HWA.out, HBA.out]; clear e0 e1 e2 e3
     go_upto_region 9 with (fail)
     rw [HWB.out, HBB.out]
     go_quiet (fail)
     clear c0 c1 c2 c3 d1; have oq : Only (fun _ => False) wb (wb.drewN nq) := (Only.refl (fun _ => False) wb).drewN nq; obtain ⟨c0, c1, c2, c3⟩ := HC.out _ oq; have HQ := hid oq; clear oq
     generalize wb.drewN nq = wq at *
     go_wp2_with fail
     clear c0 c1 c2 c3
     go_loopw [3, 8] (fun x y w8 => ∃ j : Nat, y = .int .i64 (j : Int) ∧ j ≤ LN ∧ x = .string ⟨(pre ++ ren (sepI [.sp 32, sgI 124, .sp 32] ((nmsI ns).take j))).toArray⟩ ∧ Hid (Only (fun _ => False) wb w8)) (fun _ y _ => LN - (intOf y).toNat)
     case atStart => exact ⟨0, rfl, by omega, by rw [sep_zero, List.append_nil, ← HPRE.out]; simp only [← cat_list, List.append_nil], HQ⟩
     case round =>
      clear HQ; obtain ⟨j, rfl, hj, rfl, HP⟩ := hrel; obtain ⟨c0, c1, c2, c3⟩ := HC.out _ HP.out; have hsl := sep_le [.sp 32, sgI 124, .sp 32] (nmsI ns) j; have hsl : (pre ++ ren (sepI [.sp 32, sgI 124, .sp 32] ((nmsI ns).take j))).length ≤ 1000000000000 := by have := HPN.out; rw [List.length_append] at this ⊢; omega
      by_cases hltj : j < LN
      ·exact absurd hltj (by have := HLN.out; rw [hns] at this; simp at this; omega)
      ·have t3 : decide ((j : Int) < (LN : Int)) = false := decide_eq_false (by omega); have hjn : j = LN := by omega
       have htk : (nmsI ns).take j = nmsI ns := List.take_of_length_le (by unfold nmsI; rw [List.length_map, HLN.out]; omega); rw [htk] at hsl ⊢; obtain ⟨P, hP⟩ := eX (pre ++ ren (sepI [.sp 32, sgI 124, .sp 32] (nmsI ns))); have hnx := HNX.out; rw [hP] at hsl hnx ⊢; have HNX2 := hid hnx; have HPO := hid (HOB.out.trans HP.out); subst hjn; clear hnx htk hP; have hnl := HNL.out; rw [HNX2.out] at hnl; simp only [List.length_append] at hnl; have HNL2 := hid hnl; clear hnl
       go_wp2_with fail
       clear c0 c1 c2 c3
       go_loopw [3, 9] (fun x y w8 => ∃ j : Nat, y = .int .i64 (j : Int) ∧ j ≤ LF ∧ x = .string ⟨(P ++ [32, 123] ++ fldB fs j).toArray⟩ ∧ Hid (Only (fun _ => False) wb w8)) (fun _ y _ => LF - (intOf y).toNat)
       case atStart => exact ⟨0, rfl, by omega, by rw [show fldB fs 0 = [] from rfl, List.append_nil]; simp only [← cat_list], HP⟩
       case round =>
        clear HP HPO; obtain ⟨m, rfl, hm, rfl, HP⟩ := hrel; obtain ⟨c0, c1, c2, c3⟩ := HC.out _ HP.out; have hfl := fldB_le fs m; have hnl := HNL2.out; have hsl3 : (P ++ [32, 123] ++ fldB fs m).length ≤ 1000000000000 := by simp only [List.length_append]; omega
        by_cases hltm : m < LF
        ·have t5 : decide ((m : Int) < (LF : Int)) = true := decide_eq_true (by omega); have hm0 : (0 : Int) ≤ (m : Int) := by omega
         have hm1 : (m : Int) < (LF : Int) := by omega
         have hml : m < fs.length := by rw [HLF.out]; exact hltm
         have hfn := fldB_next fs m hml; have hfl2 := fldB_le fs (m + 1); rw [hfn] at hfl2; simp only [List.length_append] at hfl2; have hfr : (ren (fdI fs[m])).length ≤ 1000000000000 := by omega
         obtain ⟨gv, ov, xs, rfl, -, hr, hc⟩ := HFK.out m hml; have hrec := prF_any fs[m] (HWF.out fs[m] (List.getElem_mem hml)) G wr xs (CellsAt.only (HOB.out.trans HP.out) (fun _ _ h => h) _ _ hc) hfr; obtain ⟨m0', g', lg', eg', s1', a1', l1', e1', b1', h1', k', n', s2', a2', l2', e2', a3', l3', e3', he⟩ := fdC_form hc; rw [he] at hrec; have hxs : xs = (#[.string ⟨m0'.toArray⟩, .slice g' lg' eg', .string ⟨s1'.toArray⟩, .slice a1' l1' e1', .bool b1', .bool h1', .int .u8 (k' : Int), .int .i64 n', .string ⟨s2'.toArray⟩, .slice a2' l2' e2', .slice a3' l3' e3'] : Array Value).toList := by rw [← he]
         rw [hxs] at hr; obtain ⟨y0, y1, y2, y3, y4, y5, y6, y7, y8, y9, y10⟩ := cells11_of hr; have y0 := keepc (HOB.out.trans HP.out) y0; have y1 := keepc (HOB.out.trans HP.out) y1; have y2 := keepc (HOB.out.trans HP.out) y2; have y3 := keepc (HOB.out.trans HP.out) y3; have y4 := keepc (HOB.out.trans HP.out) y4; have y5 := keepc (HOB.out.trans HP.out) y5; have y6 := keepc (HOB.out.trans HP.out) y6; have y7 := keepc (HOB.out.trans HP.out) y7; have y8 := keepc (HOB.out.trans HP.out) y8; have y9 := keepc (HOB.out.trans HP.out) y9; have y10 := keepc (HOB.out.trans HP.out) y10; obtain ⟨Q, hQ⟩ := eX (P ++ [32, 123] ++ fldB fs m); have hQ' : P ++ [32, 123] ++ fldB fs (m + 1) = Q ++ ([32] ++ ren (fdI fs[m])) := by rw [hfn, ← hQ]; simp only [List.append_assoc]
         rw [hQ] at hsl3 ⊢
         generalize ren (fdI fs[m]) = rv at *
         have HQ' := hid hQ'; have HREC := hid hrec; clear hQ hQ' hfn hfl hfl2 hrec he hxs hr hc hnl c0 c1 c3
         go_wp2_with fail
         refine HREC.out.mono ?_
         rintro e w6 ⟨rfl, o6⟩; have HO6 := hid (HP.out.trans o6); clear o6 c2 y0 y1 y2 y3 y4 y5 y6 y7 y8 y9 y10
         go_wp2_with fail
         go_roundw
         case rel => exact ⟨m + 1, by simp, by omega, by rw [HQ'.out]; simp only [← cat_list], HO6⟩
         case measure => simp [intOf]; omega
        ·have t5 : decide ((m : Int) < (LF : Int)) = false := decide_eq_false (by omega); have hmn : m = LF := by omega
         subst hmn; have hnx := HNX2.out; rw [HLF.out] at hnx; have HNX3 := hid hnx; have HPO := hid (HOB.out.trans HP.out); clear hnx; have hnx := HNX3.out; rw [show P ++ ([32, 123] ++ fldB fs m ++ [32, 125]) = P ++ [32, 123] ++ fldB fs m ++ [32, 125] from by simp only [List.append_assoc]] at hnx; obtain ⟨Q, hQ⟩ := eX (P ++ [32, 123] ++ fldB fs m); rw [hQ] at hsl3 hnx ⊢; have HNX4 := hid hnx; clear hnx hfl hnl c0 c1 c3 hQ HNX3
         go_wp2_with fail
         clear c2
         go_roundw
         case rel => exact ⟨i + 1, by simp, by omega, by rw [HA'.out, HNX4.out]; simp only [← cat_list], HPO⟩
         case measure => simp [intOf]; omega
    ·subst hk; have htr := td_ren3 nm fs ns (by first | exact hns | trivial); rw [htr] at hnx; have hnl := HNL.out; obtain ⟨pre, hpre⟩ := eX (acc ++ (if 0 < i then ren [.sp 32] else []) ++ ([117, 110, 105, 111, 110, 32] ++ nm) ++ [32, 61, 32]); have hnx2 : acc' = pre ++ ren (sepI [.sp 32, sgI 124, .sp 32] (nmsI ns)) ++ [] := by rw [hnx, ← hpre]; simp only [List.append_assoc]
     have hpl : pre.length ≤ 1000000000000 := by rw [hnx2] at hnl; simp only [List.length_append] at hnl; omega
     have hpn : (pre ++ ren (sepI [.sp 32, sgI 124, .sp 32] (nmsI ns))).length ≤ 1000000000000 := by rw [hnx2] at hnl; simp only [List.length_append] at hnl ⊢; omega
     have hnml : nm.length ≤ 1000000000000 := by rw [← hpre] at hpl; simp only [List.length_append] at hpl; omega
     rw [if_neg hz, List.append_nil] at hpre; have HPRE := hid hpre; have HNX := hid hnx2; have HPN := hid hpn; clear hnx2 hpre hpn hnx htr hnl; obtain ⟨bA, hbA⟩ := eX (wr.heap.size); obtain ⟨wa, hwa⟩ := eX (wr.alloc (.cells #[.int .u8 3, .string ⟨nm.toArray⟩, .slice af LF cf, .slice an LN cn] 99)); have hx1 : wa.heap[bA]? = some (.cells #[.int .u8 3, .string ⟨nm.toArray⟩, .slice af LF cf, .slice an LN cn] 99 (0, 0)) := by rw [← hwa, ← hbA]; exact heap_new wr _
     have oa : Only (fun _ => False) wr wa := by rw [← hwa]; exact (Only.refl _ wr).alloc _
     obtain ⟨bB, hbB⟩ := eX (wa.heap.size); obtain ⟨wb, hwb⟩ := eX (wa.alloc (.cells #[.string ⟨#[]⟩, .string ⟨#[116, 121, 112, 101, 32]⟩, .string ⟨#[105, 110, 116, 101, 114, 102, 97, 99, 101, 32]⟩, .string ⟨#[117, 110, 105, 111, 110, 32]⟩, .string ⟨#[101, 110, 117, 109, 32]⟩, .string ⟨#[105, 110, 112, 117, 116, 32]⟩] 9)); have hx2 : wb.heap[bB]? = some (.cells #[.string ⟨#[]⟩, .string ⟨#[116, 121, 112, 101, 32]⟩, .string ⟨#[105, 110, 116, 101, 114, 102, 97, 99, 101, 32]⟩, .string ⟨#[117, 110, 105, 111, 110, 32]⟩, .string ⟨#[101, 110, 117, 109, 32]⟩, .string ⟨#[105, 110, 112, 117, 116, 32]⟩] 9 (0, 0)) := by rw [← hwb, ← hbB]; exact heap_new wa _
     have ob : Only (fun _ => False) wa wb := by rw [← hwb]; exact (Only.refl _ wa).alloc _
     obtain ⟨c0, c1, c2, c3, -⟩ := boxN4 hx1; have d1 : wb.cell? ⟨bB, 3, none⟩ = some (.string ⟨#[117, 110, 105, 111, 110, 32]⟩) := by simp [World.cell?, hx2]
     have c0 := keepc ob c0; have c1 := keepc ob c1; have c2 := keepc ob c2; have c3 := keepc ob c3; have HC := hid (fun (wx : World) (ox : Only (fun _ => False) wb wx) => And.intro (keepc ox c0) (And.intro (keepc ox c1) (And.intro (keepc ox c2) (keepc ox c3)))); have HOB := hid ((HO.out.trans oa).trans ob); have HWA := hid hwa; have HWB := hid hwb; have HBA := hid hbA; have HBB := hid hbB; clear hx1 hx2 oa ob hwa hwb hbA hbB
     go_upto_region 6 with (fail)
     rw [HWA.out, HBA.out]; clear e0 e1 e2 e3
     go_upto_region 9 with (fail)
     rw [HWB.out, HBB.out]
     go_quiet (fail)
     clear c0 c1 c2 c3 d1; have oq : Only (fun _ => False) wb (wb.drewN nq) := (Only.refl (fun _ => False) wb).drewN nq; obtain ⟨c0, c1, c2, c3⟩ := HC.out _ oq; have HQ := hid oq; clear oq
     generalize wb.drewN nq = wq at *
     go_wp2_with fail
     clear c0 c1 c2 c3
     go_loopw [3, 8] (fun x y w8 => ∃ j : Nat, y = .int .i64 (j : Int) ∧ j ≤ LN ∧ x = .string ⟨(pre ++ ren (sepI [.sp 32, sgI 124, .sp 32] ((nmsI ns).take j))).toArray⟩ ∧ Hid (Only (fun _ => False) wb w8)) (fun _ y _ => LN - (intOf y).toNat)
     case atStart => exact ⟨0, rfl, by omega, by rw [sep_zero, List.append_nil, ← HPRE.out]; simp only [← cat_list, ByteArray.append_assoc], HQ⟩
     case round =>
      clear HQ; obtain ⟨j, rfl, hj, rfl, HP⟩ := hrel; obtain ⟨c0, c1, c2, c3⟩ := HC.out _ HP.out; have hsl := sep_le [.sp 32, sgI 124, .sp 32] (nmsI ns) j; have hsl : (pre ++ ren (sepI [.sp 32, sgI 124, .sp 32] ((nmsI ns).take j))).length ≤ 1000000000000 := by have := HPN.out; rw [List.length_append] at this ⊢; omega
      by_cases hltj : j < LN
      ·have t3 : decide ((j : Int) < (LN : Int)) = true := decide_eq_true (by omega); have hj0 : (0 : Int) ≤ (j : Int) := by omega
       have hj1 : (j : Int) < (LN : Int) := by omega
       have hjl : j < ns.length := by rw [HLN.out]; exact hltj
       have hjm : j < (nmsI ns).length := by unfold nmsI; rw [List.length_map]; exact hjl
       have hnj := sep_next [.sp 32, sgI 124, .sp 32] (nmsI ns) j hjm; have hni : ren (nmsI ns)[j] = ns[j] := by simp [nmsI, ren, It.src, nmI]
       rw [hni] at hnj; have hsl2 := sep_le [.sp 32, sgI 124, .sp 32] (nmsI ns) (j + 1); obtain ⟨gd, od, ys, rfl, -, p1, p2⟩ := HNK.out j hjl; have := str_cell p2; subst this; have p1 := keepc (HOB.out.trans HP.out) (p1 0 _ rfl); rw [Nat.mul_one, Nat.add_zero] at p1; have hsn : ns[j].length ≤ 1000000000000 := by have := HPN.out; rw [List.length_append] at this; rw [hnj, List.length_append] at hsl2; omega
       obtain ⟨P, hP⟩ := eX (pre ++ ren (sepI [.sp 32, sgI 124, .sp 32] ((nmsI ns).take j))); have hP' : pre ++ ren (sepI [.sp 32, sgI 124, .sp 32] ((nmsI ns).take (j + 1))) = P ++ (if 0 < j then ren [.sp 32, sgI 124, .sp 32] else []) ++ ns[j] := by rw [hnj, ← hP]; simp only [List.append_assoc]
       rw [hP] at hsl ⊢; have HP' := hid hP'; clear hP hP' hnj hni hsl2 p2 hjm
       generalize ns[j] = sj at *
       clear hjl
       by_cases hzj : 0 < j
       ·have t4 : decide ((j : Int) > 0) = true := decide_eq_true (by omega); rw [if_pos hzj] at HP'; clear c0 c1 c2
        go_wp2_with fail
        clear c3 p1
        go_roundw
        case rel => exact ⟨j + 1, by simp, by omega, by rw [HP'.out]; simp only [← cat_list]; rfl, HP⟩
        case measure => simp [intOf]; omega
       have hzj := hzj; have t4 : decide ((j : Int) > 0) = false := decide_eq_false (by omega); rw [if_neg hzj, List.append_nil] at HP'; clear c0 c1 c2
       go_wp2_with fail
       clear c3 p1
       go_roundw
       case rel => exact ⟨j + 1, by simp, by omega, by rw [HP'.out]; simp only [← cat_list], HP⟩
       case measure => simp [intOf]; omega
      ·have t3 : decide ((j : Int) < (LN : Int)) = false := decide_eq_false (by omega); have hjn : j = LN := by omega
       have htk : (nmsI ns).take j = nmsI ns := List.take_of_length_le (by unfold nmsI; rw [List.length_map, HLN.out]; omega); rw [htk] at hsl ⊢; obtain ⟨P, hP⟩ := eX (pre ++ ren (sepI [.sp 32, sgI 124, .sp 32] (nmsI ns))); have hnx := HNX.out; rw [hP] at hsl hnx ⊢; have HNX2 := hid hnx; have HPO := hid (HOB.out.trans HP.out); subst hjn; clear hnx htk hP; clear c1 c2
       go_wp2_with fail
       clear c0 c3
       go_roundw
       case rel => exact ⟨i + 1, by simp, by omega, by rw [HA'.out, HNX2.out]; simp only [List.append_nil], HPO⟩
       case measure => simp [intOf]; omega
    ·subst hk; have htr := td_ren4 nm fs ns (by first | exact hns | trivial); rw [htr] at hnx; have hnl := HNL.out; obtain ⟨pre, hpre⟩ := eX (acc ++ (if 0 < i then ren [.sp 32] else []) ++ ([101, 110, 117, 109, 32] ++ nm) ++ [32, 123, 32]); have hnx2 : acc' = pre ++ ren (sepI [.sp 32] (nmsI ns)) ++ [32, 125] := by rw [hnx, ← hpre]; simp only [List.append_assoc]
     have hpl : pre.length ≤ 1000000000000 := by rw [hnx2] at hnl; simp only [List.length_append] at hnl; omega
     have hpn : (pre ++ ren (sepI [.sp 32] (nmsI ns))).length ≤ 1000000000000 := by rw [hnx2] at hnl; simp only [List.length_append] at hnl ⊢; omega
     have hnml : nm.length ≤ 1000000000000 := by rw [← hpre] at hpl; simp only [List.length_append] at hpl; omega
     rw [if_neg hz, List.append_nil] at hpre; have HPRE := hid hpre; have HNX := hid hnx2; have HPN := hid hpn; clear hnx2 hpre hpn hnx htr hnl; obtain ⟨bA, hbA⟩ := eX (wr.heap.size); obtain ⟨wa, hwa⟩ := eX (wr.alloc (.cells #[.int .u8 4, .string ⟨nm.toArray⟩, .slice af LF cf, .slice an LN cn] 99)); have hx1 : wa.heap[bA]? = some (.cells #[.int .u8 4, .string ⟨nm.toArray⟩, .slice af LF cf, .slice an LN cn] 99 (0, 0)) := by rw [← hwa, ← hbA]; exact heap_new wr _
     have oa : Only (fun _ => False) wr wa := by rw [← hwa]; exact (Only.refl _ wr).alloc _
     obtain ⟨bB, hbB⟩ := eX (wa.heap.size); obtain ⟨wb, hwb⟩ := eX (wa.alloc (.cells #[.string ⟨#[]⟩, .string ⟨#[116, 121, 112, 101, 32]⟩, .string ⟨#[105, 110, 116, 101, 114, 102, 97, 99, 101, 32]⟩, .string ⟨#[117, 110, 105, 111, 110, 32]⟩, .string ⟨#[101, 110, 117, 109, 32]⟩, .string ⟨#[105, 110, 112, 117, 116, 32]⟩] 9)); have hx2 : wb.heap[bB]? = some (.cells #[.string ⟨#[]⟩, .string ⟨#[116, 121, 112, 101, 32]⟩, .string ⟨#[105, 110, 116, 101, 114, 102, 97, 99, 101, 32]⟩, .string ⟨#[117, 110, 105, 111, 110, 32]⟩, .string ⟨#[101, 110, 117, 109, 32]⟩, .string ⟨#[105, 110, 112, 117, 116, 32]⟩] 9 (0, 0)) := by rw [← hwb, ← hbB]; exact heap_new wa _
     have ob : Only (fun _ => False) wa wb := by rw [← hwb]; exact (Only.refl _ wa).alloc _
     obtain ⟨c0, c1, c2, c3, -⟩ := boxN4 hx1; have d1 : wb.cell? ⟨bB, 4, none⟩ = some (.string ⟨#[101, 110, 117, 109, 32]⟩) := by simp [World.cell?, hx2]
     have c0 := keepc ob c0; have c1 := keepc ob c1; have c2 := keepc ob c2; have c3 := keepc ob c3; have HC := hid (fun (wx : World) (ox : Only (fun _ => False) wb wx) => And.intro (keepc ox c0) (And.intro (keepc ox c1) (And.intro (keepc ox c2) (keepc ox c3)))); have HOB := hid ((HO.out.trans oa).trans ob); have HWA := hid hwa; have HWB := hid hwb; have HBA := hid hbA; have HBB := hid hbB; clear hx1 hx2 oa ob hwa hwb hbA hbB
     go_upto_region 6 with (fail)
     rw [HWA.out, HBA.out]; clear e0 e1 e2 e3
     go_upto_region 9 with (fail)
     rw [HWB.out, HBB.out]
     go_quiet (fail)
     clear c0 c1 c2 c3 d1; have oq : Only (fun _ => False) wb (wb.drewN nq) := (Only.refl (fun _ => False) wb).drewN nq; obtain ⟨c0, c1, c2, c3⟩ := HC.out _ oq; have HQ := hid oq; clear oq
     generalize wb.drewN nq = wq at *
     go_wp2_with fail
     clear c0 c1 c2 c3
     go_loopw [3, 8] (fun x y w8 => ∃ j : Nat, y = .int .i64 (j : Int) ∧ j ≤ LN ∧ x = .string ⟨(pre ++ ren (sepI [.sp 32] ((nmsI ns).take j))).toArray⟩ ∧ Hid (Only (fun _ => False) wb w8)) (fun _ y _ => LN - (intOf y).toNat)
     case atStart => exact ⟨0, rfl, by omega, by rw [sep_zero, List.append_nil, ← HPRE.out]; simp only [← cat_list, ByteArray.append_assoc], HQ⟩
     case round =>
      clear HQ; obtain ⟨j, rfl, hj, rfl, HP⟩ := hrel; obtain ⟨c0, c1, c2, c3⟩ := HC.out _ HP.out; have hsl := sep_le [.sp 32] (nmsI ns) j; have hsl : (pre ++ ren (sepI [.sp 32] ((nmsI ns).take j))).length ≤ 1000000000000 := by have := HPN.out; rw [List.length_append] at this ⊢; omega
      by_cases hltj : j < LN
      ·have t3 : decide ((j : Int) < (LN : Int)) = true := decide_eq_true (by omega); have hj0 : (0 : Int) ≤ (j : Int) := by omega
       have hj1 : (j : Int) < (LN : Int) := by omega
       have hjl : j < ns.length := by rw [HLN.out]; exact hltj
       have hjm : j < (nmsI ns).length := by unfold nmsI; rw [List.length_map]; exact hjl
       have hnj := sep_next [.sp 32] (nmsI ns) j hjm; have hni : ren (nmsI ns)[j] = ns[j] := by simp [nmsI, ren, It.src, nmI]
       rw [hni] at hnj; have hsl2 := sep_le [.sp 32] (nmsI ns) (j + 1); obtain ⟨gd, od, ys, rfl, -, p1, p2⟩ := HNK.out j hjl; have := str_cell p2; subst this; have p1 := keepc (HOB.out.trans HP.out) (p1 0 _ rfl); rw [Nat.mul_one, Nat.add_zero] at p1; have hsn : ns[j].length ≤ 1000000000000 := by have := HPN.out; rw [List.length_append] at this; rw [hnj, List.length_append] at hsl2; omega
       obtain ⟨P, hP⟩ := eX (pre ++ ren (sepI [.sp 32] ((nmsI ns).take j))); have hP' : pre ++ ren (sepI [.sp 32] ((nmsI ns).take (j + 1))) = P ++ (if 0 < j then ren [.sp 32] else []) ++ ns[j] := by rw [hnj, ← hP]; simp only [List.append_assoc]
       rw [hP] at hsl ⊢; have HP' := hid hP'; clear hP hP' hnj hni hsl2 p2 hjm
       generalize ns[j] = sj at *
       clear hjl
       by_cases hzj : 0 < j
       ·have t4 : decide ((j : Int) > 0) = true := decide_eq_true (by omega); rw [if_pos hzj] at HP'; clear c0 c1 c2
        go_wp2_with fail
        clear c3 p1
        go_roundw
        case rel => exact ⟨j + 1, by simp, by omega, by rw [HP'.out]; simp only [← cat_list]; rfl, HP⟩
        case measure => simp [intOf]; omega
       have hzj := hzj; have t4 : decide ((j : Int) > 0) = false := decide_eq_false (by omega); rw [if_neg hzj, List.append_nil] at HP'; clear c0 c1 c2
       go_wp2_with fail
       clear c3 p1
       go_roundw
       case rel => exact ⟨j + 1, by simp, by omega, by rw [HP'.out]; simp only [← cat_list], HP⟩
       case measure => simp [intOf]; omega
      ·have t3 : decide ((j : Int) < (LN : Int)) = false := decide_eq_false (by omega); have hjn : j = LN := by omega
       have htk : (nmsI ns).take j = nmsI ns := List.take_of_length_le (by unfold nmsI; rw [List.length_map, HLN.out]; omega); rw [htk] at hsl ⊢; obtain ⟨P, hP⟩ := eX (pre ++ ren (sepI [.sp 32] (nmsI ns))); have hnx := HNX.out; rw [hP] at hsl hnx ⊢; have HNX2 := hid hnx; have HPO := hid (HOB.out.trans HP.out); subst hjn; clear hnx htk hP; clear c1 c2
       go_wp2_with fail
       clear c0 c3
       go_roundw
       case rel => exact ⟨i + 1, by simp, by omega, by rw [HA'.out, HNX2.out]; simp only [← cat_list], HPO⟩
       case measure => simp [intOf]; omega
    ·subst hk; have htr := td_ren5 nm fs ns (by first | exact hns | trivial); rw [htr] at hnx; have hnl := HNL.out; obtain ⟨pre, hpre⟩ := eX (acc ++ (if 0 < i then ren [.sp 32] else []) ++ ([105, 110, 112, 117, 116, 32] ++ nm) ++ []); have hnx2 : acc' = pre ++ ren (sepI [.sp 32, sgI 124, .sp 32] (nmsI ns)) ++ ([32, 123] ++ fldB fs fs.length ++ [32, 125]) := by rw [hnx, ← hpre]; simp only [List.append_assoc]
     have hpl : pre.length ≤ 1000000000000 := by rw [hnx2] at hnl; simp only [List.length_append] at hnl; omega
     have hpn : (pre ++ ren (sepI [.sp 32, sgI 124, .sp 32] (nmsI ns))).length ≤ 1000000000000 := by rw [hnx2] at hnl; simp only [List.length_append] at hnl ⊢; omega
     have hnml : nm.length ≤ 1000000000000 := by rw [← hpre] at hpl; simp only [List.length_append] at hpl; omega
     rw [if_neg hz, List.append_nil] at hpre; have HPRE := hid hpre; have HNX := hid hnx2; have HPN := hid hpn; clear hnx2 hpre hpn hnx htr hnl; obtain ⟨bA, hbA⟩ := eX (wr.heap.size); obtain ⟨wa, hwa⟩ := eX (wr.alloc (.cells #[.int .u8 5, .string ⟨nm.toArray⟩, .slice af LF cf, .slice an LN cn] 99)); have hx1 : wa.heap[bA]? = some (.cells #[.int .u8 5, .string ⟨nm.toArray⟩, .slice af LF cf, .slice an LN cn] 99 (0, 0)) := by rw [← hwa, ← hbA]; exact heap_new wr _
     have oa : Only (fun _ => False) wr wa := by rw [← hwa]; exact (Only.refl _ wr).alloc _
     obtain ⟨bB, hbB⟩ := eX (wa.heap.size); obtain ⟨wb, hwb⟩ := eX (wa.alloc (.cells #[.string ⟨#[]⟩, .string ⟨#[116, 121, 112, 101, 32]⟩, .string ⟨#[105, 110, 116, 101, 114, 102, 97, 99, 101, 32]⟩, .string ⟨#[117, 110, 105, 111, 110, 32]⟩, .string ⟨#[101, 110, 117, 109, 32]⟩, .string ⟨#[105, 110, 112, 117, 116, 32]⟩] 9)); have hx2 : wb.heap[bB]? = some (.cells #[.string ⟨#[]⟩, .string ⟨#[116, 121, 112, 101, 32]⟩, .string ⟨#[105, 110, 116, 101, 114, 102, 97, 99, 101, 32]⟩, .string ⟨#[117, 110, 105, 111, 110, 32]⟩, .string ⟨#[101, 110, 117, 109, 32]⟩, .string ⟨#[105, 110, 112, 117, 116, 32]⟩] 9 (0, 0)) := by rw [← hwb, ← hbB]; exact heap_new wa _
     have ob : Only (fun _ => False) wa wb := by rw [← hwb]; exact (Only.refl _ wa).alloc _
     obtain ⟨c0, c1, c2, c3, -⟩ := boxN4 hx1; have d1 : wb.cell? ⟨bB, 5, none⟩ = some (.string ⟨#[105, 110, 112, 117, 116, 32]⟩) := by simp [World.cell?, hx2]
     have c0 := keepc ob c0; have c1 := keepc ob c1; have c2 := keepc ob c2; have c3 := keepc ob c3; have HC := hid (fun (wx : World) (ox : Only (fun _ => False) wb wx) => And.intro (keepc ox c0) (And.intro (keepc ox c1) (And.intro (keepc ox c2) (keepc ox c3)))); have HOB := hid ((HO.out.trans oa).trans ob); have HWA := hid hwa; have HWB := hid hwb; have HBA := hid hbA; have HBB := hid hbB; clear hx1 hx2 oa ob hwa hwb hbA hbB
     go_upto_region 6 with (fail)
     rw [HWA.out, HBA.out]; clear e0 e1 e2 e3
     go_upto_region 9 with (fail)
     rw [HWB.out, HBB.out]
     go_quiet (fail)
     clear c0 c1 c2 c3 d1; have oq : Only (fun _ => False) wb (wb.drewN nq) := (Only.refl (fun _ => False) wb).drewN nq; obtain ⟨c0, c1, c2, c3⟩ := HC.out _ oq; have HQ := hid oq; clear oq
     generalize wb.drewN nq = wq at *
     go_wp2_with fail
     clear c0 c1 c2 c3
     go_loopw [3, 8] (fun x y w8 => ∃ j : Nat, y = .int .i64 (j : Int) ∧ j ≤ LN ∧ x = .string ⟨(pre ++ ren (sepI [.sp 32, sgI 124, .sp 32] ((nmsI ns).take j))).toArray⟩ ∧ Hid (Only (fun _ => False) wb w8)) (fun _ y _ => LN - (intOf y).toNat)
     case atStart => exact ⟨0, rfl, by omega, by rw [sep_zero, List.append_nil, ← HPRE.out]; simp only [← cat_list, List.append_nil], HQ⟩
     case round =>
      clear HQ; obtain ⟨j, rfl, hj, rfl, HP⟩ := hrel; obtain ⟨c0, c1, c2, c3⟩ := HC.out _ HP.out; have hsl := sep_le [.sp 32, sgI 124, .sp 32] (nmsI ns) j; have hsl : (pre ++ ren (sepI [.sp 32, sgI 124, .sp 32] ((nmsI ns).take j))).length ≤ 1000000000000 := by have := HPN.out; rw [List.length_append] at this ⊢; omega
      by_cases hltj : j < LN
      ·exact absurd hltj (by have := HLN.out; rw [hns] at this; simp at this; omega)
      ·have t3 : decide ((j : Int) < (LN : Int)) = false := decide_eq_false (by omega); have hjn : j = LN := by omega
       have htk : (nmsI ns).take j = nmsI ns := List.take_of_length_le (by unfold nmsI; rw [List.length_map, HLN.out]; omega); rw [htk] at hsl ⊢; obtain ⟨P, hP⟩ := eX (pre ++ ren (sepI [.sp 32, sgI 124, .sp 32] (nmsI ns))); have hnx := HNX.out; rw [hP] at hsl hnx ⊢; have HNX2 := hid hnx; have HPO := hid (HOB.out.trans HP.out); subst hjn; clear hnx htk hP; have hnl := HNL.out; rw [HNX2.out] at hnl; simp only [List.length_append] at hnl; have HNL2 := hid hnl; clear hnl
       go_wp2_with fail
       clear c0 c1 c2 c3
       go_loopw [3, 9] (fun x y w8 => ∃ j : Nat, y = .int .i64 (j : Int) ∧ j ≤ LF ∧ x = .string ⟨(P ++ [32, 123] ++ fldB fs j).toArray⟩ ∧ Hid (Only (fun _ => False) wb w8)) (fun _ y _ => LF - (intOf y).toNat)
       case atStart => exact ⟨0, rfl, by omega, by rw [show fldB fs 0 = [] from rfl, List.append_nil]; simp only [← cat_list], HP⟩
       case round =>
        clear HP HPO; obtain ⟨m, rfl, hm, rfl, HP⟩ := hrel; obtain ⟨c0, c1, c2, c3⟩ := HC.out _ HP.out; have hfl := fldB_le fs m; have hnl := HNL2.out; have hsl3 : (P ++ [32, 123] ++ fldB fs m).length ≤ 1000000000000 := by simp only [List.length_append]; omega
        by_cases hltm : m < LF
        ·have t5 : decide ((m : Int) < (LF : Int)) = true := decide_eq_true (by omega); have hm0 : (0 : Int) ≤ (m : Int) := by omega
         have hm1 : (m : Int) < (LF : Int) := by omega
         have hml : m < fs.length := by rw [HLF.out]; exact hltm
         have hfn := fldB_next fs m hml; have hfl2 := fldB_le fs (m + 1); rw [hfn] at hfl2; simp only [List.length_append] at hfl2; have hfr : (ren (fdI fs[m])).length ≤ 1000000000000 := by omega
         obtain ⟨gv, ov, xs, rfl, -, hr, hc⟩ := HFK.out m hml; have hrec := prF_any fs[m] (HWF.out fs[m] (List.getElem_mem hml)) G wr xs (CellsAt.only (HOB.out.trans HP.out) (fun _ _ h => h) _ _ hc) hfr; obtain ⟨m0', g', lg', eg', s1', a1', l1', e1', b1', h1', k', n', s2', a2', l2', e2', a3', l3', e3', he⟩ := fdC_form hc; rw [he] at hrec; have hxs : xs = (#[.string ⟨m0'.toArray⟩, .slice g' lg' eg', .string ⟨s1'.toArray⟩, .slice a1' l1' e1', .bool b1', .bool h1', .int .u8 (k' : Int), .int .i64 n', .string ⟨s2'.toArray⟩, .slice a2' l2' e2', .slice a3' l3' e3'] : Array Value).toList := by rw [← he]
         rw [hxs] at hr; obtain ⟨y0, y1, y2, y3, y4, y5, y6, y7, y8, y9, y10⟩ := cells11_of hr; have y0 := keepc (HOB.out.trans HP.out) y0; have y1 := keepc (HOB.out.trans HP.out) y1; have y2 := keepc (HOB.out.trans HP.out) y2; have y3 := keepc (HOB.out.trans HP.out) y3; have y4 := keepc (HOB.out.trans HP.out) y4; have y5 := keepc (HOB.out.trans HP.out) y5; have y6 := keepc (HOB.out.trans HP.out) y6; have y7 := keepc (HOB.out.trans HP.out) y7; have y8 := keepc (HOB.out.trans HP.out) y8; have y9 := keepc (HOB.out.trans HP.out) y9; have y10 := keepc (HOB.out.trans HP.out) y10; obtain ⟨Q, hQ⟩ := eX (P ++ [32, 123] ++ fldB fs m); have hQ' : P ++ [32, 123] ++ fldB fs (m + 1) = Q ++ ([32] ++ ren (fdI fs[m])) := by rw [hfn, ← hQ]; simp only [List.append_assoc]
         rw [hQ] at hsl3 ⊢
         generalize ren (fdI fs[m]) = rv at *
         have HQ' := hid hQ'; have HREC := hid hrec; clear hQ hQ' hfn hfl hfl2 hrec he hxs hr hc hnl c0 c1 c3
         go_wp2_with fail
         refine HREC.out.mono ?_
         rintro e w6 ⟨rfl, o6⟩; have HO6 := hid (HP.out.trans o6); clear o6 c2 y0 y1 y2 y3 y4 y5 y6 y7 y8 y9 y10
         go_wp2_with fail
         go_roundw
         case rel => exact ⟨m + 1, by simp, by omega, by rw [HQ'.out]; simp only [← cat_list], HO6⟩
         case measure => simp [intOf]; omega
        ·have t5 : decide ((m : Int) < (LF : Int)) = false := decide_eq_false (by omega); have hmn : m = LF := by omega
         subst hmn; have hnx := HNX2.out; rw [HLF.out] at hnx; have HNX3 := hid hnx; have HPO := hid (HOB.out.trans HP.out); clear hnx; have hnx := HNX3.out; rw [show P ++ ([32, 123] ++ fldB fs m ++ [32, 125]) = P ++ [32, 123] ++ fldB fs m ++ [32, 125] from by simp only [List.append_assoc]] at hnx; obtain ⟨Q, hQ⟩ := eX (P ++ [32, 123] ++ fldB fs m); rw [hQ] at hsl3 hnx ⊢; have HNX4 := hid hnx; clear hnx hfl hnl c0 c1 c3 hQ HNX3
         go_wp2_with fail
         clear c2
         go_roundw
         case rel => exact ⟨i + 1, by simp, by omega, by rw [HA'.out, HNX4.out]; simp only [← cat_list], HPO⟩
         case measure => simp [intOf]; omega
  ·have t1 : decide ((i : Int) < (N : Int)) = false := decide_eq_false (by omega); have hke : i = N := by omega
   subst hke; have htk : its.take i = its := List.take_of_length_le (by rw [HIL.out]; omega); rw [htk, HR.out]; clear htk hal
   go_wp2_with fail
   go_ret
   exact ⟨rfl, HO.out⟩
end Go.Proofs.YtnkpoddbbdmipaaGreatDoor
