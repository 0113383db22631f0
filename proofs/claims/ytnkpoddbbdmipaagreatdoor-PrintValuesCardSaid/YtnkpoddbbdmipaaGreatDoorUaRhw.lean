/- . -/
import Derived.Test.YtnkpoddbbdmipaaGreatDoorUaRone
import Derived.Test.YtnkpoddbbdmipaaGreatDoorUaJnt
import Derived.Test.YtnkpoddbbdmipaaGreatDoorUaRhv
namespace Go.Proofs.YtnkpoddbbdmipaaGreatDoor
open Go Go.RowKit
open Go.Lib (hid)
set_option linter.unusedVariables false
set_option linter.unusedSimpArgs false
theorem infoRok : (Tryz.prog.info? 109).map (fun i => (i.zero, i.size, i.bytes)) = some (some (.agg #[.int .u8 0, .string ⟨#[]⟩, .int .i64 0, .int .i64 0]), 4, 40) := by kernel_rfl
theorem blkB_or (u : UInt8) : ((u.toNat : Int) = 32 ∧ blkB u = true) ∨ ((u.toNat : Int) = 10 ∧ blkB u = true) ∨ ((u.toNat : Int) = 9 ∧ blkB u = true) ∨ ((u.toNat : Int) = 13 ∧ blkB u = true) ∨ ((u.toNat : Int) = 44 ∧ blkB u = true) ∨ (¬ (u.toNat : Int) = 32 ∧ ¬ (u.toNat : Int) = 10 ∧ ¬ (u.toNat : Int) = 9 ∧ ¬ (u.toNat : Int) = 13 ∧ ¬ (u.toNat : Int) = 44 ∧ blkB u = false) := by
 revert u; refine u8_all ?_; decide +kernel
def RokRes (w : World) (P : Out) (e : Ending) (w' : World) : Prop :=
 match P with
 | .ok ts => ∃ v, e = .returned (.tuple #[v, .int .i64 0, .int .i64 0]) ∧ w'.ownsRow w.heap.size 109 4 v ts.length (toksC ts) ∧ Only (fun _ => False) w w'
 | .bad a c => e = .returned (.tuple #[.slice none 0 0, .int .i64 (a : Int), .int .i64 (c : Int)]) ∧ Only (fun _ => False) w w'
theorem RokRes.ok {w w' : World} {ts : List Tok} (v : Value) (h : w'.ownsRow w.heap.size 109 4 v ts.length (toksC ts)) (ho : Only (fun _ => False) w w') : RokRes w (.ok ts) (.returned (.tuple #[v, .int .i64 0, .int .i64 0])) w' := ⟨v, rfl, h, ho⟩
theorem lineB_yes {c : UInt8} (h : lineB c = true) : ¬ (c.toNat : Int) = 10 := by
 unfold lineB at h; simp only [Bool.not_eq_true', decide_eq_false_iff_not] at h; omega
theorem lineB_no {c : UInt8} (h : lineB c = false) : (c.toNat : Int) = 10 := by
 unfold lineB at h; simp only [Bool.not_eq_false', decide_eq_true_eq] at h; omega
set_option maxRecDepth 100000 in
set_option maxHeartbeats 40000000 in
theorem rtokens_any (s : ByteArray) (w : World) (hs : s.size ≤ maxLen) :
  Calls Tryz.prog 33 #[.string s] w fun e w' => RokRes w (toks s.data.toList) e w' := by
 unfold maxLen at hs; obtain ⟨P, hP⟩ := eX (toks s.data.toList); rw [hP]; have hlen : s.data.toList.length = s.size := rfl
 by_cases hl : 2000 < s.size
 ·have t1 : decide ((s.size : Int) > 2000) = true := decide_eq_true (by omega); have e : P = .bad 0 2 := by rw [← hP]; unfold toks; rw [hlen, if_pos hl]
  rw [e]
  go_enter Tryz.func33, Tryz.ntmps33
  go_wp2_with fail
  exact bodyPost_ret (v := .tuple #[.slice none 0 0, .int .i64 0, .int .i64 2]) (by simp [results, Tryz.results33, go_sem]) rfl ⟨rfl, Only.refl _ _⟩
 replace hs : s.size ≤ 281474976710656 := by omega
 have t1 : decide ((s.size : Int) > 2000) = false := decide_eq_false (by omega); have hP2 : toksA 0 s.data.toList = P := by rw [← hP]; unfold toks; rw [hlen, if_neg hl]
 have HP := hid hP2; have HLEN := hid hlen; clear hP hP2 hlen
 go_enter Tryz.func33, Tryz.ntmps33
 go_wp2_with fail
 clear t1
 go_loopw [5, 6] (fun o i wr => ∃ k ts, i = .int .i64 (k : Nat) ∧ k ≤ s.size ∧ ts.length ≤ k ∧ Hid (wr.ownsRow w.heap.size 109 4 o ts.length (toksC ts)) ∧ Hid (Only (fun _ => False) w wr) ∧ Hid ((toksA k (s.data.toList.drop k)).app ts = P)) (fun _ i _ => s.size - (intOf i).toNat)
 case atStart => exact ⟨0, [], by simp, by omega, by simp, hid (own_nil _ _ _ _), hid (Only.refl _ _), hid (by rw [Out.app_nil, List.drop_zero]; exact HP.out)⟩
 case round =>
  obtain ⟨k, ts, rfl, hk, hts, OW, OO, TP⟩ := hrel; obtain ⟨a5, c5, rfl, hc1, hc2, hc3⟩ := own_form OW.out
  by_cases hlm : k < s.size
  rotate_left
  ·have t1 : decide ((k : Int) < (s.size : Int)) = false := decide_eq_false (by omega); have hke : k = s.size := by omega
   have HKE := hid hke; clear hke
   go_upto_region 18 with (fail)
   have hoa : (wr.alloc (.cells (tokC ⟨0, [], 0, k⟩).toArray 109)).ownsRow w.heap.size 109 4 (.slice a5 ts.length c5) ts.length (toksC ts) := own_only' OW.out ((Only.refl (fun _ => False) wr).alloc _) (fun _ _ h => h); have hys : ∀ j u, (tokC ⟨0, [], 0, k⟩)[j]? = some u → (wr.alloc (.cells (tokC ⟨0, [], 0, k⟩).toArray 109)).cell? ((⟨wr.heap.size, 0, none⟩ : Addr).add j) = some u := fun j u hu => by
    rw [addr_add]; exact range_of_block (cs := tokC ⟨0, [], 0, k⟩) (heap_new _ _) j u hu
   have hba : w.heap.size ≤ (wr.alloc (.cells (tokC ⟨0, [], 0, k⟩).toArray 109)).heap.size := by have := OO.out.size; simp; omega
   have hoA : Only (fun _ => False) w (wr.alloc (.cells (tokC ⟨0, [], 0, k⟩).toArray 109)) := OO.out.alloc _; have HOA := hid hoa; have HYS := hid hys; have HBA := hid hba; have HOAA := hid hoA; clear hoa hys hba hoA; unfold tokC at HOA HBA HOAA; have hty : (tokC ⟨0, [], 0, k⟩) = [.int .u8 0, .string ⟨#[]⟩, .int .i64 0, .int .i64 (k : Int)] := rfl; rw [hty] at HYS; clear hty
   go_wp2_with ((refine wpList_append_own2 (o := ⟨some 81, _, _, _, _, _⟩) rfl (.tmp 77) (.tmp 80) 66 109 (by rfl) Tryz.underlying66 infoRok rfl (by decide) w.heap.size (.slice a5 ts.length c5) ts.length 1 1 (toksC ts) [.int .u8 0, .string ⟨#[]⟩, .int .i64 0, .int .i64 (k : Int)] ⟨wr.heap.size, 0, none⟩ (by rfl) (by rfl) HOA.out (by rfl) HYS.out (by intro u hu; simp [tokC] at hu; rcases hu with rfl | rfl | rfl | rfl <;> rfl) (by unfold maxLen; omega) (by omega) HBA.out ?_; intro v' w9 q1 q2 q3))
   have e : P = .ok (ts ++ [⟨0, [], 0, k⟩]) := by rw [← TP.out, drop_all s k (by have := HKE.out; omega), toksA_nil]; rfl
   rw [e]; have ho : Only (fun _ => False) w w9 := HOAA.out.trans' q2 (fun q hq h => by have := (hc3 q h).1; omega); have hq1 : w9.ownsRow w.heap.size 109 4 v' (ts ++ [(⟨0, [], 0, k⟩ : Tok)]).length (toksC (ts ++ [(⟨0, [], 0, k⟩ : Tok)])) := by
    rw [← toksC_snoc, List.length_append]; exact q1
   have HO9 := hid ho; have HQ1 := hid hq1; clear ho hq1 q1 q2 q3
   go_wp2_with fail
   exact bodyPost_ret (v := .tuple #[v', .int .i64 0, .int .i64 0]) (by simp [results, Tryz.results33, go_sem]) rfl (RokRes.ok _ HQ1.out HO9.out)
  have t1 : decide ((k : Int) < (s.size : Int)) = true := decide_eq_true (by omega); have tq := TP.out; rw [drop_get s k hlm] at tq; have TQ := hid tq; clear tq TP; obtain ⟨sb, hsb⟩ := eX (blkB s[k]); have HSB := hid hsb; clear hsb
  go_upto_region 7 with (fail)
  clear t1
  go_cut [22] from 15 to 40 (fun v w' => v = .bool sb ∧ w' = wr)
  case first =>
   rcases blkB_or s[k] with ⟨hn, hq⟩ | ⟨hn, hq⟩ | ⟨hn, hq⟩ | ⟨hn, hq⟩ | ⟨hn, hq⟩ | ⟨n1, n2, n3, n4, n5, hq⟩
   all_goals (
    rw [HSB.out] at hq; subst hq; clear HSB
    go_wp2_with fail
    go_meet
    case rel => exact ⟨by simp [*], by first | rfl | trivial⟩)
  case rest =>
   obtain ⟨rfl, rfl⟩ := hcut
   cases sb
   rotate_left
   ·have tq := TQ.out; rw [toksA_blk _ HSB.out] at tq; have TR := hid tq; clear tq TQ
    go_wp2_with fail
    go_roundw
    case rel => first | exact ⟨k + 1, ts, by simp, by omega, by omega, OW, OO, TR⟩ | ((repeat apply Exists.intro); refine ⟨?_, rfl⟩; exact ⟨k + 1, ts, by simp, by omega, by omega, OW, OO, TR⟩)
    case measure => simp [intOf]; omega
   have hb0 := HSB.out; have tq := TQ.out; have HBL := hid hb0; clear hb0 HSB
   by_cases c1 : (s[k].toNat : Int) = 35
   ·have t3 : decide ((s[k].toNat : Int) = 35) = true := decide_eq_true c1; rw [toksA_rem _ (by omega)] at tq; obtain ⟨r, hr⟩ := eX (runL lineB (s.data.toList.drop k)); have e2 : r = runL lineB (s.data.toList.drop (k + 1)) + 1 := by
     have : lineB s[k] = true := by unfold lineB; rw [decide_eq_false (by omega)]; rfl
     rw [← hr, drop_get s k hlm, runL, if_pos this]
    have hrl : k + r ≤ s.size := by rcases runL_at hr with h | h <;> omega
    have e3 : (toksA (k + r) (s.data.toList.drop (k + r))).app ts = P := by
     have e4 : k + r = k + 1 + runL lineB (s.data.toList.drop (k + 1)) := by omega
     rw [e4, ← tq, List.drop_drop]
    have hr1 : 1 ≤ r := by omega
    have TR := hid e3; have HR := hid hr; clear tq hr e2 e3 TQ
    go_wp2_with fail
    go_loopw [6] (fun x wx => ∃ m : Nat, x = .int .i64 (m : Int) ∧ k ≤ m ∧ m ≤ k + r ∧ wx = wc) (fun x _ => s.size - (intOf x).toNat)
    case atStart => exact ⟨k, rfl, by omega, by omega, rfl⟩
    case round =>
     obtain ⟨m, rfl, hm1, hm2, rfl⟩ := hrel
     by_cases hms : m < s.size
     ·have t4 : decide ((m : Int) < (s.size : Int)) = true := decide_eq_true (by omega)
      by_cases hmr : m < k + r
      ·have hln := run_in HR.out m hm1 hmr hms; have hnl := lineB_yes hln; clear hln
       go_wp2_with fail
       go_roundw
       case rel => first | exact ⟨m + 1, by simp, by omega, by omega, by first | rfl | trivial⟩ | ((repeat apply Exists.intro); refine ⟨?_, rfl⟩; exact ⟨m + 1, by simp, by omega, by omega, by first | rfl | trivial⟩)
       case measure => simp [intOf]; omega
      ·have hme : m = k + r := by omega
       subst hme; have hln := run_out HR.out hms; have hnl := lineB_no hln; clear hln
       go_wp2_with fail
       go_roundw
       case rel => first | exact ⟨k + r, ts, by simp, by omega, by omega, OW, OO, TR⟩ | ((repeat apply Exists.intro); refine ⟨?_, rfl⟩; exact ⟨k + r, ts, by simp, by omega, by omega, OW, OO, TR⟩)
       case measure => simp [intOf]; omega
     ·have t4 : decide ((m : Int) < (s.size : Int)) = false := decide_eq_false (by omega); have hme : m = k + r := by omega
      subst hme
      go_wp2_with fail
      go_roundw
      case rel => first | exact ⟨k + r, ts, by simp, by omega, by omega, OW, OO, TR⟩ | ((repeat apply Exists.intro); refine ⟨?_, rfl⟩; exact ⟨k + r, ts, by simp, by omega, by omega, OW, OO, TR⟩)
      case measure => simp [intOf]; omega
   ·have t3 : decide ((s[k].toNat : Int) = 35) = false := decide_eq_false c1; have T := hid (rone_any s k wc (by omega) hlm); rw [drop_get s k hlm] at T; have hb0 := HBL.out
    cases ho : oneP (s[k] :: s.data.toList.drop (k + 1)) with
    | bad off ee =>
     rw [ho] at T; unfold oneR tokV at T; rw [toksA_bad _ hb0 (by omega) ho] at tq; have TR := hid tq; clear tq TQ; have hof := oneP_off ho; have t4 : decide ((ee : Int) = 0) = false := decide_eq_false (by omega); rw [List.length_cons, List.length_drop, HLEN.out] at hof
     go_wp2_with fail
     refine T.out.mono ?_
     rintro e2 w2 ⟨rfl, O2⟩; have hbx := heap_new w2 (.cells [.int .u8 0, .string ⟨#[]⟩, .int .i64 0, .int .i64 0].toArray 109); have hO2 : Only (fun _ => False) w (w2.alloc (.cells [.int .u8 0, .string ⟨#[]⟩, .int .i64 0, .int .i64 0].toArray 109)) := (OO.out.trans O2).alloc _; have hsz : w.heap.size ≤ w2.heap.size := (OO.out.trans O2).size; obtain ⟨b0, hb0'⟩ : ∃ b0, w2.heap.size = b0 := ⟨_, rfl⟩; rw [hb0'] at hbx hsz; have HBX := hid hbx; have HO2 := hid hO2; have HSZ := hid hsz; have OT := hid O2; clear hbx hO2 hsz O2
     go_wp2_with ((refine wpList_store_box (o := ⟨none, _, _, _, _, _⟩) rfl 109 (.tmp 8) (.tmp 62) (by rfl) b0 [.int .u8 0, .string ⟨#[]⟩, .int .i64 0, .int .i64 0] [.int .u8 0, .string ⟨#[]⟩, .int .i64 0, .int .i64 0] (by rfl) (by rfl) HBX.out (by rfl) (by kernel_rfl) (by intro u hu; simp at hu; rcases hu with rfl | rfl | rfl | rfl <;> rfl) ?_; intro w9 k1 k2))
     have hoW : Only (fun _ => False) w w9 := HO2.out.trans' k2 (fun q hq e => by have := HSZ.out; omega); have HOW := hid hoW; clear hoW k1 k2; have e : P = .bad (k + off) ee := TR.out.symm; rw [e]
     go_wp2_with fail
     exact bodyPost_ret (v := .tuple #[.slice none 0 0, .int .i64 ((k + off : Nat) : Int), .int .i64 (ee : Int)]) (by simp [results, Tryz.results33, go_sem]) rfl ⟨rfl, HOW.out⟩
    | ok kk tt nn len =>
     rw [ho] at T; unfold oneR tokV at T; have hol := oneP_len ho; rw [toksA_one _ hb0 (by omega) ho, ← drop_get s k hlm, List.drop_drop, Out.app_cons] at tq; have TR := hid tq; clear tq TQ; rw [List.length_cons, List.length_drop, HLEN.out] at hol
     go_wp2_with fail
     refine T.out.mono ?_
     rintro e2 w2 ⟨rfl, O2⟩; have hbx := heap_new w2 (.cells [.int .u8 0, .string ⟨#[]⟩, .int .i64 0, .int .i64 0].toArray 109); have hO2 : Only (fun _ => False) w (w2.alloc (.cells [.int .u8 0, .string ⟨#[]⟩, .int .i64 0, .int .i64 0].toArray 109)) := (OO.out.trans O2).alloc _; have hsz : w.heap.size ≤ w2.heap.size := (OO.out.trans O2).size; obtain ⟨b0, hb0'⟩ : ∃ b0, w2.heap.size = b0 := ⟨_, rfl⟩; rw [hb0'] at hbx hsz; have HBX := hid hbx; have HO2 := hid hO2; have HSZ := hid hsz; have OT := hid O2; clear hbx hO2 hsz O2
     go_upto_region 15 with ((refine wpList_store_box (o := ⟨none, _, _, _, _, _⟩) rfl 109 (.tmp 8) (.tmp 62) (by rfl) b0 [.int .u8 0, .string ⟨#[]⟩, .int .i64 0, .int .i64 0] [.int .u8 (kk : Int), .string ⟨tt.toArray⟩, .int .i64 nn, .int .i64 0] (by rfl) (by rfl) HBX.out (by rfl) (by kernel_rfl) (by intro u hu; simp at hu; rcases hu with rfl | rfl | rfl | rfl <;> rfl) ?_; intro w9 k1 k2))
     obtain ⟨z0, z1, z2, z3⟩ := box4 k1; have fz : w9.frozen? ⟨b0, 3, none⟩ = false := by simp [World.frozen?, k1]
     have h10 := heap_set (o := 3) k1 (.int .i64 (k : Int)); have ho10 : Only (fun _ => False) w (w9.setCell ⟨b0, 3, none⟩ (.int .i64 (k : Int))) := (HO2.out.trans' k2 (fun q hq e => by have := HSZ.out; omega)).setCell (.inr HSZ.out) _; have hr10 : Only (fun q => q = b0) w2 (w9.setCell ⟨b0, 3, none⟩ (.int .i64 (k : Int))) := (((Only.refl _ w2).alloc _).trans' k2 (fun _ _ h => h)).setCell (.inl rfl) _; have H10 := hid h10; have HO10 := hid ho10; have HR10 := hid hr10; clear h10 ho10 hr10 k1 k2
     go_upto_region 16 with (fail)
     clear z0 z1 z2 z3 fz
     generalize w9.setCell ⟨b0, 3, none⟩ (.int .i64 (k : Int)) = wc0 at *
     obtain ⟨z0, z1, z2, z3⟩ := box4 (show wc0.heap[b0]? = some (.cells #[.int .u8 (kk : Int), .string ⟨tt.toArray⟩, .int .i64 nn, .int .i64 (k : Int)] 109 (0, 0)) from H10.out); have hall : Only (fun q => q = b0) wc wc0 := (OT.out.mono (T := fun q => q = b0) (fun _ _ h => h.elim)).trans HR10.out; have hb1 : wc.heap.size ≤ b0 := by have := OT.out.size; omega
     have hoa : (wc0.alloc (.cells [.int .u8 (kk : Int), .string ⟨tt.toArray⟩, .int .i64 nn, .int .i64 (k : Int)].toArray 109)).ownsRow w.heap.size 109 4 (.slice a5 ts.length c5) ts.length (toksC ts) := own_only' OW.out (hall.alloc _) (fun q h e => by have := (hc3 q h).2; omega); have hys : ∀ j u, ([.int .u8 (kk : Int), .string ⟨tt.toArray⟩, .int .i64 nn, .int .i64 (k : Int)] : List Value)[j]? = some u → (wc0.alloc (.cells [.int .u8 (kk : Int), .string ⟨tt.toArray⟩, .int .i64 nn, .int .i64 (k : Int)].toArray 109)).cell? ((⟨wc0.heap.size, 0, none⟩ : Addr).add j) = some u := fun j u hu => by
      rw [addr_add]; exact range_of_block (cs := [.int .u8 (kk : Int), .string ⟨tt.toArray⟩, .int .i64 nn, .int .i64 (k : Int)]) (heap_new _ _) j u hu
     have hba : w.heap.size ≤ (wc0.alloc (.cells [.int .u8 (kk : Int), .string ⟨tt.toArray⟩, .int .i64 nn, .int .i64 (k : Int)].toArray 109)).heap.size := by have := HO10.out.size; simp; omega
     have hoA : Only (fun _ => False) w (wc0.alloc (.cells [.int .u8 (kk : Int), .string ⟨tt.toArray⟩, .int .i64 nn, .int .i64 (k : Int)].toArray 109)) := HO10.out.alloc _; have HOA := hid hoa; have HYS := hid hys; have HBA := hid hba; have HOAA := hid hoA; clear hoa hys hba hoA hall hb1
     go_wp2_with ((refine wpList_append_own2 (o := ⟨some 75, _, _, _, _, _⟩) rfl (.tmp 72) (.tmp 74) 66 109 (by rfl) Tryz.underlying66 infoRok rfl (by decide) w.heap.size (.slice a5 ts.length c5) ts.length 1 1 (toksC ts) [.int .u8 (kk : Int), .string ⟨tt.toArray⟩, .int .i64 nn, .int .i64 (k : Int)] ⟨wc0.heap.size, 0, none⟩ (by rfl) (by rfl) HOA.out (by rfl) HYS.out (by intro u hu; simp [tokC] at hu; rcases hu with rfl | rfl | rfl | rfl <;> rfl) (by unfold maxLen; omega) (by omega) HBA.out ?_; intro v' w9 q1 q2 q3))
     have ho9 : Only (fun _ => False) w w9 := HOAA.out.trans' q2 (fun q hq h => by have := (hc3 q h).1; omega); have hq1 : w9.ownsRow w.heap.size 109 4 v' (ts ++ [(⟨kk, tt, nn, k⟩ : Tok)]).length (toksC (ts ++ [(⟨kk, tt, nn, k⟩ : Tok)])) := by
      rw [← toksC_snoc, List.length_append]; exact q1
     have HO9 := hid ho9; have HQ1 := hid hq1; clear ho9 hq1 q1 q2 q3
     go_wp2_with fail
     go_roundw
     case rel => first | exact ⟨k + len, ts ++ [⟨kk, tt, nn, k⟩], by simp, by omega, by rw [List.length_append, List.length_singleton]; omega, HQ1, HO9, TR⟩ | ((repeat apply Exists.intro); refine ⟨?_, rfl⟩; exact ⟨k + len, ts ++ [⟨kk, tt, nn, k⟩], by simp, by omega, by rw [List.length_append, List.length_singleton]; omega, HQ1, HO9, TR⟩)
     case measure => simp [intOf]; omega
theorem isW_kind {s : List UInt8} {r : List Tok} (h : isW s r = true) : ∃ t r', r = t :: r' ∧ t.kind = 1 ∧ t.text = s := by
 cases r with
 | nil => cases h
 | cons t r' =>
  have h : (decide (t.kind = 1) && decide (t.text = s)) = true := h; rw [Bool.and_eq_true, decide_eq_true_eq, decide_eq_true_eq] at h; exact ⟨t, r', rfl, h.1, h.2⟩
theorem isW_pos {s : List UInt8} {r : List Tok} (h : isW s r = true) : isK 0 r = false := by
 obtain ⟨t, r', rfl, h1, -⟩ := isW_kind h
 show decide (t.kind = 0) = false
 rw [h1]; decide
theorem isW_notS {s s' : List UInt8} {r : List Tok} (h : isW s r = true) : isS s' r = false := by
 obtain ⟨t, r', rfl, h1, -⟩ := isW_kind h
 show (decide (t.kind = 4) && decide (t.text = s')) = false
 rw [h1]; rfl
set_option maxRecDepth 100000 in
theorem fword_any (b : Nat) (all : RL) (σ : PR Unit) (c : UInt8) (l : List UInt8) (hc : letB c = true) (w : World) (h : Rf w b all σ) :
  Calls Tryz.prog 42 #[.pointer (some ⟨b, 0, none⟩), .string ⟨(c :: l).toArray⟩] w fun e w' => e = .returned (.tuple #[]) ∧ Rf w' b all (σ.bind fun _ => wantP (c :: l)).unit ∧ Only (fun k => k = b) w w' := by
 obtain ⟨e0, ce, fz, he⟩ := h.err; have H := hid h; rw [fwant_took, h.word c l hc]
 rcases he with ⟨r, rfl, rfl⟩ | ⟨a, rfl, hc0⟩
 ·have T := hid (fWord_any b all (.ok () r) (c :: l) w h); obtain ⟨bb, hb⟩ := eX (tst (.ok () r : PR Unit) (isW (c :: l))); rw [hb] at T ⊢; have HBW := hid (show isW (c :: l) r = bb from hb); clear hb h; obtain ⟨s, hs⟩ := eX (c :: l); rw [hs] at T HBW ⊢; clear hs hc
  cases bb
  ·rw [if_neg (by decide)]; clear HBW
   go_enter Tryz.func42, Tryz.ntmps42
   go_wp2_with fail
   refine T.out.mono ?_
   rintro e w1 ⟨rfl, o1⟩; have J := hid (fFault_any b all (.ok () r) 4 (by decide) w1 (H.out.still o1)); have O1 := hid (o1.mono (T := fun k => k = b) (fun _ _ h => h.elim)); clear o1 ce fz
   go_wp2_with fail
   refine J.out.mono ?_
   rintro e w2 ⟨rfl, h2, o2⟩; have H2 := hid h2; have O2 := hid (O1.out.trans o2); clear h2 o2
   go_wp2_with fail
   first
    | exact ⟨rfl, H2.out, O2.out⟩
    | (go_ret; exact ⟨rfl, H2.out, O2.out⟩)
    | (refine bodyPost_ret (results_none rfl _ _ _) rfl ?_; exact ⟨rfl, H2.out, O2.out⟩)
  ·rw [if_pos rfl]
   go_enter Tryz.func42, Tryz.ntmps42
   go_wp2_with fail
   refine T.out.mono ?_
   rintro e w1 ⟨rfl, o1⟩; have h2 := H.out.still o1; clear ce fz; obtain ⟨g, off, cc, N, t, r', hr, i, bd, c0, c1, c2, c3, c4, fz, hi, hNc, hN, hcm, hgb, -⟩ := h2.next; have h3 := h2.step (isW_pos HBW.out) c1; have hO : Only (fun k => k = b) w (w1.setCell ⟨b, 1, none⟩ (.int .i64 ((i : Int) + 1))) := (o1.mono (T := fun k => k = b) (fun _ _ h => h.elim)).setCell (.inl rfl) _; have H3 := hid (show Rf _ b all (adv (.ok () r)) from h3); have HO := hid hO; clear h2 h3 hO o1 hr HBW
   go_wp2_with fail
   clear c0 c1 c2 c3 c4 fz
   go_end0
   exact ⟨rfl, H3.out, HO.out⟩
 ·have t1 : ((e0 : Int) == 0) = false := by simp; omega
  obtain ⟨h1, v, i, dv, c0, c1, c2, c3, c4, fz2⟩ := h.bad_cells; obtain ⟨x, hx⟩ := eX (IntKind.i64.wrap (i + 1)); have h2 : Rf (w.setCell ⟨b, 1, none⟩ (.int .i64 x)) b all (.bad a e0) := by
   obtain ⟨i', dv', bd', e', h, hs⟩ := h; exact ⟨_, _, _, _, (h.set 1 x all rfl).resolve_right (by omega), hs⟩
  have ho : Only (fun k => k = b) w (w.setCell ⟨b, 1, none⟩ (.int .i64 x)) := (Only.refl (fun k => k = b) w).setCell (.inl rfl) _; obtain ⟨w1, hw1⟩ := eX (w.setCell ⟨b, 1, none⟩ (.int .i64 x)); rw [hw1] at h2 ho; have HW1 := hid hw1; have H2 := hid (show Rf w1 b all (if tst (.bad a e0) (isW (c :: l)) then adv (.bad a e0) else flt (.bad a e0) 4) from h2); have HO := hid ho; clear h h2 ho hw1 hc0 c0 c2 c3 h1 H
  generalize (if tst (.bad a e0) (isW (c :: l)) then adv (.bad a e0) else flt (.bad a e0) 4 : PR Unit) = σ2 at *
  obtain ⟨s, hs⟩ := eX (c :: l); rw [hs]; clear hs hc
  go_enter Tryz.func42, Tryz.ntmps42
  go_wp2_with fail
  rw [HW1.out]; clear c1 c4 fz2 fz ce hx
  go_end0
  exact ⟨rfl, H2.out, HO.out⟩
section
variable {τ τ' α : Type} {total : PR α} {σ : PR Unit} {K : τ → Prop}
theorem Jn.map {K' : τ' → Prop} {F : τ → List Tok → PR α} {F' : τ' → List Tok → PR α} (f : τ → τ') (h : Jn total σ K F) (hF : ∀ t, F t = F' (f t)) (hK : ∀ t, K t → K' (f t)) : Jn total σ K' F' := by
 obtain ⟨Q, h1, h2, h3⟩ := h; refine ⟨Q.bind fun t r => .ok (f t) r, ?_, ?_, fun t q e => ?_⟩
 ·rw [h1]
  cases Q with
  | ok t q => exact congrFun (hF t) q
  | bad a e => rfl
 ·rw [h2]; cases Q <;> rfl
 ·cases Q with
  | ok t0 q0 => injection e with e1 e2; subst e1; exact hK _ (h3 _ _ rfl)
  | bad a c => cases e
theorem Jn.fail {F : τ → List Tok → PR α} {c : Nat} (h : Jn total σ K (fun _ r => .bad (atT r) c)) : Jn total (flt σ c) K F := by
 obtain ⟨Q, h1, h2, h3⟩ := h; refine ⟨Q.bind fun t r => .bad (atT r) c, ?_, ?_, fun t q e => ?_⟩
 ·rw [h1]; cases Q <;> rfl
 ·rw [h2]; cases Q <;> rfl
 ·cases Q <;> cases e
end
def fragQ (r : List Tok) : PR FR := (nameP r).bind fun s r1 => (wantP wOn r1).bind fun _ r2 => (nameP r2).bind fun o r3 => (setP 24 r3).bind fun sub r4 => .ok ⟨s, o, sub⟩ r4
theorem fragP_fun : fragP = fun r => if isW wOn r then .bad (atT r) 4 else fragQ r := rfl
def opS (m : Bool) (s : List UInt8) (vs : List VD) (r : List Tok) : PR OP := (setP 24 r).bind fun sub r4 => .ok ⟨m, s, vs, sub⟩ r4
def opV (m : Bool) (s : List UInt8) (r : List Tok) : PR OP := if isS [40] r then (manyP varP [41] (r.tail.length + 1) [] r.tail).bind fun vs r3 => opS m s vs r3 else opS m s [] r
def opN (m : Bool) (r : List Tok) : PR OP := if isK 1 r then (nameP r).bind fun s r2 => opV m s r2 else opV m [] r
def opdP (r : List Tok) : PR OP := if isS [123] r then opS false [] [] r else if isT wMutation r then opN true r.tail else (wantP wQuery r).bind fun _ r1 => opN false r1
theorem opV_eq (m : Bool) (s : List UInt8) (r2 : List Tok) : ((if isS [40] r2 then manyP varP [41] (r2.length + 1) [] r2.tail else .ok [] r2).bind fun vs r3 => (setP 24 r3).bind fun sub r4 => PR.ok (⟨m, s, vs, sub⟩ : OP) r4) = opV m s r2 := by
 unfold opV
 by_cases hb : isS [40] r2 = true
 ·have hl : r2.tail.length < r2.length := by
   cases r2 with
   | nil => cases hb
   | cons t r => simp
  rw [if_pos hb, if_pos hb, manyP_fuel varP_takes [41] (r2.length + 1) (r2.tail.length + 1) [] r2.tail (by omega) (by omega)]; rfl
 ·rw [if_neg hb, if_neg hb]; rfl
theorem opN_eq (m : Bool) (r1 : List Tok) : ((if isK 1 r1 then nameP r1 else .ok [] r1).bind fun s r2 => (if isS [40] r2 then manyP varP [41] (r2.length + 1) [] r2.tail else .ok [] r2).bind fun vs r3 => (setP 24 r3).bind fun sub r4 => PR.ok (⟨m, s, vs, sub⟩ : OP) r4) = opN m r1 := by
 simp only [opV_eq]; unfold opN
 by_cases hb : isK 1 r1 = true
 ·rw [if_pos hb, if_pos hb]
 ·rw [if_neg hb, if_neg hb]; rfl
theorem opP_eq (r : List Tok) : opP r = if isT wMutation r then opN true r.tail else (wantP wQuery r).bind fun _ r1 => opN false r1 := by
 unfold opP; simp only [opN_eq]
 by_cases hb : isT wMutation r = true
 ·rw [if_pos hb, if_pos hb]; rfl
 ·rw [if_neg hb, if_neg hb]
  cases wantP wQuery r <;> rfl
theorem opdP_takes : Takes opdP := fun r x r1 h => by
 unfold opdP at h
 by_cases hs : isS [123] r = true
 ·rw [if_pos hs] at h; unfold opS at h; obtain ⟨sub, r4, h1, h2⟩ := bind_inv h
  injection h2 with _ e; subst e
  exact setP_takes _ _ _ _ h1
 ·rw [if_neg hs, ← opP_eq] at h; exact opP_takes _ _ _ h
theorem defP_op (d : DC) {r : List Tok} (h : isT wFragment r = false) : defP d r = (opdP r).bind fun o r1 => .ok ⟨d.ops ++ [o], d.frags⟩ r1 := by
 unfold defP opdP
 by_cases hs : isS [123] r = true
 ·rw [if_pos hs, if_pos hs]; unfold opS
  cases setP 24 r <;> rfl
 ·rw [if_neg hs, if_neg hs, if_neg (by rw [h]; decide), opP_eq]
theorem defP_frag (d : DC) {r : List Tok} (h : isW wFragment r = true) : defP d r = (fragP r.tail).bind fun f r1 => .ok ⟨d.ops, d.frags ++ [f]⟩ r1 := by
 unfold defP; rw [if_neg (by rw [isW_notS h]; decide), if_pos (by show (isS wFragment r || isW wFragment r) = true; rw [h, Bool.or_true])]
def docS (first : Bool) (d : DC) (r : List Tok) : PR DC := if first then docF (r.length + 1) d r else if isK 0 r then .ok d r else docF (r.length + 1) d r
theorem doc_step {first : Bool} {d : DC} {r : List Tok} (h : first = true ∨ isK 0 r = false) : docS first d r = (defP d r).bind fun d1 r1 => docS false d1 r1 := by
 have e : docS first d r = docF (r.length + 1) d r := by
  unfold docS
  cases first with
  | true => rfl
  | false => rw [if_neg (by decide), if_neg (by rw [h.resolve_left (by decide)]; decide)]
 rw [e, docF]
 cases hq : defP d r with
 | bad a e => rfl
 | ok t r1 =>
  have hl := defP_takes _ _ _ _ hq
  show (if isK 0 r1 = true then PR.ok t r1 else docF r.length t r1) = docS false t r1
  unfold docS; rw [if_neg (show ¬ (false = true) by decide)]
  by_cases hk : isK 0 r1 = true
  ·rw [if_pos hk, if_pos hk]
  ·rw [if_neg hk, if_neg hk]; exact docF_fuel _ _ _ _ (by omega) (by omega)
def docG (total : PR DC) : DR1 := match total with | .ok d _ => .ok d | .bad a e => .bad a e
theorem docP_toks {s : List UInt8} {ts : List Tok} (h : toks s = .ok ts) : docP s = docG (docS true ⟨[], []⟩ ts) := by
 unfold docP; rw [h]
 show (match docF (ts.length + 1) ⟨[], []⟩ ts with | .ok d _ => DR1.ok d | .bad a e => .bad a e) = docG (docF (ts.length + 1) ⟨[], []⟩ ts)
 generalize docF (ts.length + 1) ⟨[], []⟩ ts = z
 cases z <;> rfl
def DocResF (w : World) (p : DR1) (e : Ending) (w' : World) : Prop := match p with
 | .ok d => ∃ a1 c1 a2 c2, e = .returned (.tuple #[.agg #[.slice a1 d.ops.length c1, .slice a2 d.frags.length c2], .int .i64 0, .int .i64 0]) ∧ CellsAt w' (fun q => w.heap.size ≤ q) (docC d) [.slice a1 d.ops.length c1, .slice a2 d.frags.length c2] ∧ Only (fun _ => False) w w'
 | .bad x c => e = .returned (.tuple #[.agg #[.slice none 0 0, .slice none 0 0], .int .i64 (x : Int), .int .i64 (c : Int)]) ∧ Only (fun _ => False) w w'
end Go.Proofs.YtnkpoddbbdmipaaGreatDoor
