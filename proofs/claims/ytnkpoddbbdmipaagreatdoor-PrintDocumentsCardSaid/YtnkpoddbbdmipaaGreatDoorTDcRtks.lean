/- . -/
import Derived.Test.YtnkpoddbbdmipaaGreatDoorTDcRone
import Derived.Test.YtnkpoddbbdmipaaGreatDoorTDcJnt
namespace Go.Proofs.YtnkpoddbbdmipaaGreatDoor
open Go Go.RowKit
open Go.Lib (hid)
set_option linter.unusedVariables false
set_option linter.unusedSimpArgs false
theorem infoRok : (Tryz.prog.info? 109).map (fun i => (i.zero, i.size, i.bytes)) = some (some (.agg #[.int .u8 0, .string ⟨#[]⟩, .int .i64 0, .int .i64 0]), 4, 40) := by kernel_rfl
theorem blkB_or (u : UInt8) : ((u.toNat : Int) = 32 ∧ blkB u = true) ∨ ((u.toNat : Int) = 10 ∧ blkB u = true) ∨ ((u.toNat : Int) = 9 ∧ blkB u = true) ∨ ((u.toNat : Int) = 13 ∧ blkB u = true) ∨ ((u.toNat : Int) = 44 ∧ blkB u = true) ∨ (¬ (u.toNat : Int) = 32 ∧ ¬ (u.toNat : Int) = 10 ∧ ¬ (u.toNat : Int) = 9 ∧ ¬ (u.toNat : Int) = 13 ∧ ¬ (u.toNat : Int) = 44 ∧ blkB u = false) := by
 revert u; refine u8_all ?_; decide +kernel
def RokRes (w : World) (P : Out) (e : Ending) (w' : World) : Prop :=
 match P with
 | .ok ts => ∃ v, e = .returned (.tuple #[v, .int .i64 0, .int .i64 0]) ∧ w'.ownsRow w.heap.size 109 4 v ts.length (toksC ts) ∧ Only (fun _ => False) w w'
 | .bad a c => e = .returned (.tuple #[.slice none 0 0, .int .i64 (a : Int), .int .i64 (c : Int)]) ∧ Only (fun _ => False) w w'
theorem RokRes.ok {w w' : World} {ts : List Tok} (v : Value) (h : w'.ownsRow w.heap.size 109 4 v ts.length (toksC ts)) (ho : Only (fun _ => False) w w') : RokRes w (.ok ts) (.returned (.tuple #[v, .int .i64 0, .int .i64 0])) w' := ⟨v, rfl, h, ho⟩
theorem lineB_yes {c : UInt8} (h : lineB c = true) : ¬ (c.toNat : Int) = 10 := by
 unfold lineB at h; simp only [Bool.not_eq_true', decide_eq_false_iff_not] at h; omega
theorem lineB_no {c : UInt8} (h : lineB c = false) : (c.toNat : Int) = 10 := by
 unfold lineB at h; simp only [Bool.not_eq_false', decide_eq_true_eq] at h; omega
set_option maxRecDepth 100000 in
set_option maxHeartbeats 40000000 in
theorem rtokens_any (s : ByteArray) (w : World) (hs : s.size ≤ maxLen) :
  Calls Tryz.prog 33 #[.string s] w fun e w' => RokRes w (toks s.data.toList) e w' := by
 unfold maxLen at hs; obtain ⟨P, hP⟩ := eX (toks s.data.toList); rw [hP]; have hlen : s.data.toList.length = s.size := rfl
 by_cases hl : 2000 < s.size
 ·have t1 : decide ((s.size : Int) > 2000) = true := decide_eq_true (by omega); have e : P = .bad 0 2 := by rw [← hP]; unfold toks; rw [hlen, if_pos hl]
  rw [e]
  go_enter Tryz.func33, Tryz.ntmps33
  go_wp2_with fail
  exact bodyPost_ret (v := .tuple #[.slice none 0 0, .int .i64 0, .int .i64 2]) (by simp [results, Tryz.results33, go_sem]) rfl ⟨rfl, oR⟩
 replace hs : s.size ≤ 281474976710656 := by omega
 have t1 : decide ((s.size : Int) > 2000) = false := decide_eq_false (by omega); have hP2 : toksA 0 s.data.toList = P := by rw [← hP]; unfold toks; rw [hlen, if_neg hl]
 have HP := hid hP2; have HLEN := hid hlen; clear hP hP2 hlen
 go_enter Tryz.func33, Tryz.ntmps33
 go_wp2_with fail
 clear t1
 go_loopw [5, 6] (fun o i wr => ∃ k ts, i = .int .i64 (k : Nat) ∧ k ≤ s.size ∧ ts.length ≤ k ∧ Hid (wr.ownsRow w.heap.size 109 4 o ts.length (toksC ts)) ∧ Hid (Only (fun _ => False) w wr) ∧ Hid ((toksA k (s.data.toList.drop k)).app ts = P)) (fun _ i _ => s.size - (intOf i).toNat)
 case atStart => exact ⟨0, [], by simp, by omega, by simp, hid (own_nil _ _ _ _), hid oR, hid (by rw [Out.app_nil, List.drop_zero]; exact HP.out)⟩
 case round =>
  obtain ⟨k, ts, rfl, hk, hts, OW, OO, TP⟩ := hrel; obtain ⟨a5, c5, rfl, hc1, hc2, hc3⟩ := own_form OW.out
  by_cases hlm : k < s.size
  rotate_left
  ·have t1 : decide ((k : Int) < (s.size : Int)) = false := decide_eq_false (by omega); have hke : k = s.size := by omega
   have HKE := hid hke; clear hke
   go_upto_region 18 with (fail)
   have hoa : (wr.alloc (.cells (tokC ⟨0, [], 0, k⟩).toArray 109)).ownsRow w.heap.size 109 4 (.slice a5 ts.length c5) ts.length (toksC ts) := own_only' OW.out ((Only.refl (fun _ => False) wr).alloc _) (fun _ _ h => h); have hys : ∀ j u, (tokC ⟨0, [], 0, k⟩)[j]? = some u → (wr.alloc (.cells (tokC ⟨0, [], 0, k⟩).toArray 109)).cell? ((⟨wr.heap.size, 0, none⟩ : Addr).add j) = some u := fun j u hu => by
    rw [addr_add]; exact range_of_block (cs := tokC ⟨0, [], 0, k⟩) (heap_new _ _) j u hu
   have hba : w.heap.size ≤ (wr.alloc (.cells (tokC ⟨0, [], 0, k⟩).toArray 109)).heap.size := by have := OO.out.size; simp; omega
   have hoA : Only (fun _ => False) w (wr.alloc (.cells (tokC ⟨0, [], 0, k⟩).toArray 109)) := OO.out.alloc _; have HOA := hid hoa; have HYS := hid hys; have HBA := hid hba; have HOAA := hid hoA; clear hoa hys hba hoA; unfold tokC at HOA HBA HOAA; have hty : (tokC ⟨0, [], 0, k⟩) = [.int .u8 0, .string ⟨#[]⟩, .int .i64 0, .int .i64 (k : Int)] := rfl; rw [hty] at HYS; clear hty
   go_wp2_with ((refine wpList_append_own2 (o := ⟨some 81, _, _, _, _, _⟩) rfl (.tmp 77) (.tmp 80) 66 109 (by rfl) Tryz.underlying66 infoRok rfl (by decide) w.heap.size (.slice a5 ts.length c5) ts.length 1 1 (toksC ts) [.int .u8 0, .string ⟨#[]⟩, .int .i64 0, .int .i64 (k : Int)] ⟨wr.heap.size, 0, none⟩ (by rfl) (by rfl) HOA.out (by rfl) HYS.out (by intro u hu; simp [tokC] at hu; rcases hu with rfl | rfl | rfl | rfl <;> rfl) (by unfold maxLen; omega) (by omega) HBA.out ?_; intro v' w9 q1 q2 q3))
   have e : P = .ok (ts ++ [⟨0, [], 0, k⟩]) := by rw [← TP.out, drop_all s k (by have := HKE.out; omega), toksA_nil]; rfl
   rw [e]; have ho : Only (fun _ => False) w w9 := HOAA.out.trans' q2 (fun q hq h => by have := (hc3 q h).1; omega); have hq1 : w9.ownsRow w.heap.size 109 4 v' (ts ++ [(⟨0, [], 0, k⟩ : Tok)]).length (toksC (ts ++ [(⟨0, [], 0, k⟩ : Tok)])) := by
    rw [← toksC_snoc, List.length_append]; exact q1
   have HO9 := hid ho; have HQ1 := hid hq1; clear ho hq1 q1 q2 q3
   go_wp2_with fail
   exact bodyPost_ret (v := .tuple #[v', .int .i64 0, .int .i64 0]) (by simp [results, Tryz.results33, go_sem]) rfl (RokRes.ok _ HQ1.out HO9.out)
  have t1 : decide ((k : Int) < (s.size : Int)) = true := decide_eq_true (by omega); have tq := TP.out; rw [drop_get s k hlm] at tq; have TQ := hid tq; clear tq TP; obtain ⟨sb, hsb⟩ := eX (blkB s[k]); have HSB := hid hsb; clear hsb
  go_upto_region 7 with (fail)
  clear t1
  go_cut [22] from 15 to 40 (fun v w' => v = .bool sb ∧ w' = wr)
  case first =>
   rcases blkB_or s[k] with ⟨hn, hq⟩ | ⟨hn, hq⟩ | ⟨hn, hq⟩ | ⟨hn, hq⟩ | ⟨hn, hq⟩ | ⟨n1, n2, n3, n4, n5, hq⟩
   all_goals (
    rw [HSB.out] at hq; subst hq; clear HSB
    go_wp2_with fail
    go_meet
    case rel => exact ⟨by simp [*], by first | rfl | trivial⟩)
  case rest =>
   obtain ⟨rfl, rfl⟩ := hcut
   cases sb
   rotate_left
   ·have tq := TQ.out; rw [toksA_blk _ HSB.out] at tq; have TR := hid tq; clear tq TQ
    go_wp2_with fail
    go_roundw
    case rel => first | exact ⟨k + 1, ts, by simp, by omega, by omega, OW, OO, TR⟩ | ((repeat apply Exists.intro); refine ⟨?_, rfl⟩; exact ⟨k + 1, ts, by simp, by omega, by omega, OW, OO, TR⟩)
    case measure => simp [intOf]; omega
   have hb0 := HSB.out; have tq := TQ.out; have HBL := hid hb0; clear hb0 HSB
   by_cases c1 : (s[k].toNat : Int) = 35
   ·have t3 : decide ((s[k].toNat : Int) = 35) = true := decide_eq_true c1; rw [toksA_rem _ (by omega)] at tq; obtain ⟨r, hr⟩ := eX (runL lineB (s.data.toList.drop k)); have e2 : r = runL lineB (s.data.toList.drop (k + 1)) + 1 := by
     have : lineB s[k] = true := by unfold lineB; rw [decide_eq_false (by omega)]; rfl
     rw [← hr, drop_get s k hlm, runL, if_pos this]
    have hrl : k + r ≤ s.size := by rcases runL_at hr with h | h <;> omega
    have e3 : (toksA (k + r) (s.data.toList.drop (k + r))).app ts = P := by
     have e4 : k + r = k + 1 + runL lineB (s.data.toList.drop (k + 1)) := by omega
     rw [e4, ← tq, List.drop_drop]
    have hr1 : 1 ≤ r := by omega
    have TR := hid e3; have HR := hid hr; clear tq hr e2 e3 TQ
    go_wp2_with fail
    go_loopw [6] (fun x wx => ∃ m : Nat, x = .int .i64 (m : Int) ∧ k ≤ m ∧ m ≤ k + r ∧ wx = wc) (fun x _ => s.size - (intOf x).toNat)
    case atStart => exact ⟨k, rfl, by omega, by omega, rfl⟩
    case round =>
     obtain ⟨m, rfl, hm1, hm2, rfl⟩ := hrel
     by_cases hms : m < s.size
     ·have t4 : decide ((m : Int) < (s.size : Int)) = true := decide_eq_true (by omega)
      by_cases hmr : m < k + r
      ·have hln := run_in HR.out m hm1 hmr hms; have hnl := lineB_yes hln; clear hln
       go_wp2_with fail
       go_roundw
       case rel => first | exact ⟨m + 1, by simp, by omega, by omega, by first | rfl | trivial⟩ | ((repeat apply Exists.intro); refine ⟨?_, rfl⟩; exact ⟨m + 1, by simp, by omega, by omega, by first | rfl | trivial⟩)
       case measure => simp [intOf]; omega
      ·have hme : m = k + r := by omega
       subst hme; have hln := run_out HR.out hms; have hnl := lineB_no hln; clear hln
       go_wp2_with fail
       go_roundw
       case rel => first | exact ⟨k + r, ts, by simp, by omega, by omega, OW, OO, TR⟩ | ((repeat apply Exists.intro); refine ⟨?_, rfl⟩; exact ⟨k + r, ts, by simp, by omega, by omega, OW, OO, TR⟩)
       case measure => simp [intOf]; omega
     ·have t4 : decide ((m : Int) < (s.size : Int)) = false := decide_eq_false (by omega); have hme : m = k + r := by omega
      subst hme
      go_wp2_with fail
      go_roundw
      case rel => first | exact ⟨k + r, ts, by simp, by omega, by omega, OW, OO, TR⟩ | ((repeat apply Exists.intro); refine ⟨?_, rfl⟩; exact ⟨k + r, ts, by simp, by omega, by omega, OW, OO, TR⟩)
      case measure => simp [intOf]; omega
   ·have t3 : decide ((s[k].toNat : Int) = 35) = false := decide_eq_false c1; have T := hid (rone_any s k wc (by omega) hlm); rw [drop_get s k hlm] at T; have hb0 := HBL.out
    cases ho : oneP (s[k] :: s.data.toList.drop (k + 1)) with
    | bad off ee =>
     rw [ho] at T; unfold oneR tokV at T; rw [toksA_bad _ hb0 (by omega) ho] at tq; have TR := hid tq; clear tq TQ; have hof := oneP_off ho; have t4 : decide ((ee : Int) = 0) = false := decide_eq_false (by omega); rw [List.length_cons, List.length_drop, HLEN.out] at hof
     go_wp2_with fail
     refine T.out.mono ?_
     rintro e2 w2 ⟨rfl, O2⟩; have hbx := heap_new w2 (.cells [.int .u8 0, .string ⟨#[]⟩, .int .i64 0, .int .i64 0].toArray 109); have hO2 : Only (fun _ => False) w (w2.alloc (.cells [.int .u8 0, .string ⟨#[]⟩, .int .i64 0, .int .i64 0].toArray 109)) := (OO.out.trans O2).alloc _; have hsz : w.heap.size ≤ w2.heap.size := (OO.out.trans O2).size; obtain ⟨b0, hb0'⟩ : ∃ b0, w2.heap.size = b0 := ⟨_, rfl⟩; rw [hb0'] at hbx hsz; have HBX := hid hbx; have HO2 := hid hO2; have HSZ := hid hsz; have OT := hid O2; clear hbx hO2 hsz O2
     go_wp2_with ((refine wpList_store_box (o := ⟨none, _, _, _, _, _⟩) rfl 109 (.tmp 8) (.tmp 62) (by rfl) b0 [.int .u8 0, .string ⟨#[]⟩, .int .i64 0, .int .i64 0] [.int .u8 0, .string ⟨#[]⟩, .int .i64 0, .int .i64 0] (by rfl) (by rfl) HBX.out (by rfl) (by kernel_rfl) (by intro u hu; simp at hu; rcases hu with rfl | rfl | rfl | rfl <;> rfl) ?_; intro w9 k1 k2))
     have hoW : Only (fun _ => False) w w9 := HO2.out.trans' k2 (fun q hq e => by have := HSZ.out; omega); have HOW := hid hoW; clear hoW k1 k2; have e : P = .bad (k + off) ee := TR.out.symm; rw [e]
     go_wp2_with fail
     exact bodyPost_ret (v := .tuple #[.slice none 0 0, .int .i64 ((k + off : Nat) : Int), .int .i64 (ee : Int)]) (by simp [results, Tryz.results33, go_sem]) rfl ⟨rfl, HOW.out⟩
    | ok kk tt nn len =>
     rw [ho] at T; unfold oneR tokV at T; have hol := oneP_len ho; rw [toksA_one _ hb0 (by omega) ho, ← drop_get s k hlm, List.drop_drop, Out.app_cons] at tq; have TR := hid tq; clear tq TQ; rw [List.length_cons, List.length_drop, HLEN.out] at hol
     go_wp2_with fail
     refine T.out.mono ?_
     rintro e2 w2 ⟨rfl, O2⟩; have hbx := heap_new w2 (.cells [.int .u8 0, .string ⟨#[]⟩, .int .i64 0, .int .i64 0].toArray 109); have hO2 : Only (fun _ => False) w (w2.alloc (.cells [.int .u8 0, .string ⟨#[]⟩, .int .i64 0, .int .i64 0].toArray 109)) := (OO.out.trans O2).alloc _; have hsz : w.heap.size ≤ w2.heap.size := (OO.out.trans O2).size; obtain ⟨b0, hb0'⟩ : ∃ b0, w2.heap.size = b0 := ⟨_, rfl⟩; rw [hb0'] at hbx hsz; have HBX := hid hbx; have HO2 := hid hO2; have HSZ := hid hsz; have OT := hid O2; clear hbx hO2 hsz O2
     go_upto_region 15 with ((refine wpList_store_box (o := ⟨none, _, _, _, _, _⟩) rfl 109 (.tmp 8) (.tmp 62) (by rfl) b0 [.int .u8 0, .string ⟨#[]⟩, .int .i64 0, .int .i64 0] [.int .u8 (kk : Int), .string ⟨tt.toArray⟩, .int .i64 nn, .int .i64 0] (by rfl) (by rfl) HBX.out (by rfl) (by kernel_rfl) (by intro u hu; simp at hu; rcases hu with rfl | rfl | rfl | rfl <;> rfl) ?_; intro w9 k1 k2))
     obtain ⟨z0, z1, z2, z3⟩ := box4 k1; have fz : w9.frozen? ⟨b0, 3, none⟩ = false := by simp [World.frozen?, k1]
     have h10 := heap_set (o := 3) k1 (.int .i64 (k : Int)); have ho10 : Only (fun _ => False) w (w9.setCell ⟨b0, 3, none⟩ (.int .i64 (k : Int))) := (HO2.out.trans' k2 (fun q hq e => by have := HSZ.out; omega)).setCell (.inr HSZ.out) _; have hr10 : Only (fun q => q = b0) w2 (w9.setCell ⟨b0, 3, none⟩ (.int .i64 (k : Int))) := (((Only.refl _ w2).alloc _).trans' k2 (fun _ _ h => h)).setCell (.inl rfl) _; have H10 := hid h10; have HO10 := hid ho10; have HR10 := hid hr10; clear h10 ho10 hr10 k1 k2
     go_upto_region 16 with (fail)
     clear z0 z1 z2 z3 fz
     generalize w9.setCell ⟨b0, 3, none⟩ (.int .i64 (k : Int)) = wc0 at *
     obtain ⟨z0, z1, z2, z3⟩ := box4 (show wc0.heap[b0]? = some (.cells #[.int .u8 (kk : Int), .string ⟨tt.toArray⟩, .int .i64 nn, .int .i64 (k : Int)] 109 (0, 0)) from H10.out); have hall : Only (fun q => q = b0) wc wc0 := (OT.out.mono (T := fun q => q = b0) (fun _ _ h => h.elim)).trans HR10.out; have hb1 : wc.heap.size ≤ b0 := by have := OT.out.size; omega
     have hoa : (wc0.alloc (.cells [.int .u8 (kk : Int), .string ⟨tt.toArray⟩, .int .i64 nn, .int .i64 (k : Int)].toArray 109)).ownsRow w.heap.size 109 4 (.slice a5 ts.length c5) ts.length (toksC ts) := own_only' OW.out (hall.alloc _) (fun q h e => by have := (hc3 q h).2; omega); have hys : ∀ j u, ([.int .u8 (kk : Int), .string ⟨tt.toArray⟩, .int .i64 nn, .int .i64 (k : Int)] : List Value)[j]? = some u → (wc0.alloc (.cells [.int .u8 (kk : Int), .string ⟨tt.toArray⟩, .int .i64 nn, .int .i64 (k : Int)].toArray 109)).cell? ((⟨wc0.heap.size, 0, none⟩ : Addr).add j) = some u := fun j u hu => by
      rw [addr_add]; exact range_of_block (cs := [.int .u8 (kk : Int), .string ⟨tt.toArray⟩, .int .i64 nn, .int .i64 (k : Int)]) (heap_new _ _) j u hu
     have hba : w.heap.size ≤ (wc0.alloc (.cells [.int .u8 (kk : Int), .string ⟨tt.toArray⟩, .int .i64 nn, .int .i64 (k : Int)].toArray 109)).heap.size := by have := HO10.out.size; simp; omega
     have hoA : Only (fun _ => False) w (wc0.alloc (.cells [.int .u8 (kk : Int), .string ⟨tt.toArray⟩, .int .i64 nn, .int .i64 (k : Int)].toArray 109)) := HO10.out.alloc _; have HOA := hid hoa; have HYS := hid hys; have HBA := hid hba; have HOAA := hid hoA; clear hoa hys hba hoA hall hb1
     go_wp2_with ((refine wpList_append_own2 (o := ⟨some 75, _, _, _, _, _⟩) rfl (.tmp 72) (.tmp 74) 66 109 (by rfl) Tryz.underlying66 infoRok rfl (by decide) w.heap.size (.slice a5 ts.length c5) ts.length 1 1 (toksC ts) [.int .u8 (kk : Int), .string ⟨tt.toArray⟩, .int .i64 nn, .int .i64 (k : Int)] ⟨wc0.heap.size, 0, none⟩ (by rfl) (by rfl) HOA.out (by rfl) HYS.out (by intro u hu; simp [tokC] at hu; rcases hu with rfl | rfl | rfl | rfl <;> rfl) (by unfold maxLen; omega) (by omega) HBA.out ?_; intro v' w9 q1 q2 q3))
     have ho9 : Only (fun _ => False) w w9 := HOAA.out.trans' q2 (fun q hq h => by have := (hc3 q h).1; omega); have hq1 : w9.ownsRow w.heap.size 109 4 v' (ts ++ [(⟨kk, tt, nn, k⟩ : Tok)]).length (toksC (ts ++ [(⟨kk, tt, nn, k⟩ : Tok)])) := by
      rw [← toksC_snoc, List.length_append]; exact q1
     have HO9 := hid ho9; have HQ1 := hid hq1; clear ho9 hq1 q1 q2 q3
     go_wp2_with fail
     go_roundw
     case rel => first | exact ⟨k + len, ts ++ [⟨kk, tt, nn, k⟩], by simp, by omega, by rw [List.length_append, List.length_singleton]; omega, HQ1, HO9, TR⟩ | ((repeat apply Exists.intro); refine ⟨?_, rfl⟩; exact ⟨k + len, ts ++ [⟨kk, tt, nn, k⟩], by simp, by omega, by rw [List.length_append, List.length_singleton]; omega, HQ1, HO9, TR⟩)
     case measure => simp [intOf]; omega
end Go.Proofs.YtnkpoddbbdmipaaGreatDoor
