/- lex.Tokens: the tokens of a text. -/
import Derived.Test.YtgephneppgcnlaaGreatDoorToke
namespace Go.Proofs.YtgephneppgcnlaaGreatDoor
open Go Go.RowKit
set_option linter.unusedVariables false
set_option linter.unusedSimpArgs false

def tokC (t : Tok) : List Value := [.int .u8 (t.kind : Int), .string ⟨t.text.toArray⟩, .int .i64 t.n, .int .i64 (t.at_ : Int)]
def toksC : List Tok → List Value
  | [] => []
  | t :: ts => tokC t ++ toksC ts
theorem toksC_len : ∀ ts, (toksC ts).length = ts.length * 4
  | [] => rfl
  | t :: ts => by show (tokC t ++ toksC ts).length = _; rw [List.length_append, toksC_len ts, List.length_cons]; show 4 + _ = _; omega
theorem toksC_app : ∀ ts us, toksC (ts ++ us) = toksC ts ++ toksC us
  | [], us => rfl
  | t :: ts, us => by show tokC t ++ toksC (ts ++ us) = tokC t ++ toksC ts ++ toksC us; rw [toksC_app ts us, List.append_assoc]
theorem toksC_snoc (ts : List Tok) (t : Tok) : toksC ts ++ tokC t = toksC (ts ++ [t]) := by rw [toksC_app]; show _ = _ ++ (tokC t ++ []); rw [List.append_nil]
theorem infoTok : (Tryz.prog.info? 50).map (fun i => (i.zero, i.size, i.bytes)) = some (some (.agg #[.int .u8 0, .string ⟨#[]⟩, .int .i64 0, .int .i64 0]), 4, 40) := by kernel_rfl
theorem range_of_block {w : World} {b : Nat} {cs : List Value} {e : TypeId} {fr : Nat × Nat} (h : w.heap[b]? = some (.cells cs.toArray e fr)) : w.rangeAt b 0 cs := by
  intro j v hv
  simp only [World.cell?, h]
  simpa using hv
theorem numP_off {l : List UInt8} {off e : Nat} (h : numP l = .bad off e) (hl : l ≠ []) : off ≤ l.length ∧ 0 < e ∧ e ≤ 4 := by
  have h0 : 1 ≤ l.length := by cases l with | nil => exact absurd rfl hl | cons => simp
  have h1 := numFrom_le l
  have h2 := runL_le digB (l.drop (numFrom l))
  rw [List.length_drop] at h2
  rw [numP_at rfl rfl] at h
  split at h
  · injection h with a b; omega
  · split at h
    · injection h with a b; omega
    · split at h
      · injection h with a b; omega
      · split at h
        · injection h with a b; omega
        · cases h
theorem txtP_off : ∀ (n : Nat) (l acc : List UInt8) (k : Nat) {off e : Nat}, l.length ≤ n → txtP acc k l = .bad off e → off ≤ k + l.length ∧ 0 < e ∧ e ≤ 4
  | _, [], acc, k, off, e, _, h => by rw [txtP_nil] at h; injection h with a b; simp; omega
  | 0, _ :: _, _, _, _, _, hn, _ => by simp at hn
  | n + 1, c :: l, acc, k, off, e, hn, h => by
    simp only [List.length_cons] at hn ⊢
    by_cases h1 : c.toNat = 34
    · rw [txtP_q _ _ _ h1] at h
      split at h
      · injection h with a b; omega
      · cases h
    by_cases h2 : c.toNat = 10
    · rw [txtP_n _ _ _ h2] at h; injection h with a b; omega
    by_cases h3 : c.toNat = 92
    · cases l with
      | nil => rw [txtP_e0 _ _ h3] at h; injection h with a b; simp; omega
      | cons d l =>
        rw [txtP_e _ _ _ _ h3] at h
        simp only [List.length_cons] at hn ⊢
        split at h
        · have := txtP_off n l _ _ (by omega) h; omega
        · injection h with a b; omega
    rw [txtP_o _ _ _ h1 h2 h3] at h
    have := txtP_off n l _ _ (by omega) h; omega
theorem oneP_off {l : List UInt8} {off e : Nat} (h : oneP l = .bad off e) : off ≤ l.length ∧ 0 < e ∧ e ≤ 4 := by
  cases l with
  | nil => simp only [oneP] at h; injection h with a b; simp; omega
  | cons c l =>
    rw [oneP_at rfl] at h
    split at h
    · split at h
      · injection h with a b; omega
      · cases h
    · split at h
      · exact numP_off h (by simp)
      · split at h
        · have := txtP_off _ _ _ _ (Nat.le_refl _) h; simp only [List.length_cons]; omega
        · split at h
          · cases h
          · split at h
            · cases h
            · injection h with a b; omega
/-- What lex.Tokens hands back. -/
def TokRes (w : World) (o : Out) (e : Ending) (w' : World) : Prop := match o with
  | .ok ts => ∃ v, e = .returned (.tuple #[v, .int .i64 0, .int .i64 0]) ∧ w'.ownsRow w.heap.size 50 4 v ts.length (toksC ts) ∧ Only (fun _ => False) w w'
  | .bad a c => e = .returned (.tuple #[.slice none 0 0, .int .i64 (a : Int), .int .i64 (c : Int)]) ∧ Only (fun _ => False) w w'
theorem TokRes.ok {w w' : World} {ts : List Tok} (v : Value) (h : w'.ownsRow w.heap.size 50 4 v ts.length (toksC ts)) (ho : Only (fun _ => False) w w') : TokRes w (.ok ts) (.returned (.tuple #[v, .int .i64 0, .int .i64 0])) w' := ⟨v, rfl, h, ho⟩
set_option maxRecDepth 100000 in
set_option maxHeartbeats 4000000 in
theorem tokens_any (s : ByteArray) (w : World) (hs : s.size ≤ maxLen) :
    Calls Tryz.prog 8 #[.string s] w fun e w' => TokRes w (toks s.data.toList) e w' := by
  unfold maxLen at hs
  obtain ⟨P, hP⟩ : ∃ P, toks s.data.toList = P := ⟨_, rfl⟩
  rw [hP]
  have hlen : s.data.toList.length = s.size := rfl
  by_cases hl : 2000 < s.size
  · have t1 : decide ((s.size : Int) > 2000) = true := decide_eq_true (by omega)
    have e : P = .bad 0 2 := by rw [← hP]; unfold toks; rw [hlen, if_pos hl]
    rw [e]
    go_enter Tryz.func8, Tryz.ntmps8
    go_wp2_with fail
    exact bodyPost_ret (v := .tuple #[.slice none 0 0, .int .i64 0, .int .i64 2]) (by simp [results, Tryz.results8, go_sem]) rfl ⟨rfl, Only.refl _ _⟩
  replace hs : s.size ≤ 281474976710656 := by omega
  have t1 : decide ((s.size : Int) > 2000) = false := decide_eq_false (by omega)
  have hP2 : toksA 0 s.data.toList = P := by rw [← hP]; unfold toks; rw [hlen, if_neg hl]
  have HP := Lib.hid hP2; have HLEN := Lib.hid hlen; clear hP hP2 hlen
  go_enter Tryz.func8, Tryz.ntmps8
  go_wp2_with fail
  go_loopw [5, 6] (fun o i wr => ∃ k ts, i = .int .i64 (k : Nat) ∧ k ≤ s.size ∧ ts.length ≤ k ∧ Hid (wr.ownsRow w.heap.size 50 4 o ts.length (toksC ts)) ∧ Hid (Only (fun _ => False) w wr) ∧ Hid ((toksA k (s.data.toList.drop k)).app ts = P)) (fun _ i _ => s.size - (intOf i).toNat)
  case atStart => exact ⟨0, [], by simp, by omega, by simp, Lib.hid (own_nil _ _ _ _), Lib.hid (Only.refl _ _), Lib.hid (by rw [Out.app_nil, List.drop_zero]; exact HP.out)⟩
  case round =>
    obtain ⟨k, ts, rfl, hk, hts, OW, OO, TP⟩ := hrel
    obtain ⟨a5, c5, rfl, hc1, hc2, hc3⟩ := own_form OW.out
    obtain ⟨r, hr⟩ : ∃ r, runL blkB (s.data.toList.drop k) = r := ⟨_, rfl⟩
    have hrl := runL_le blkB (s.data.toList.drop k)
    have tp := TP.out
    rw [toksA_run, hr, List.drop_drop] at tp
    rw [hr, List.length_drop, HLEN.out] at hrl
    have R := Lib.hid (run_blk (s.extract k s.size) wr (by rw [ByteArray.size_extract]; omega))
    rw [extract_end, hr] at R
    have hst : ∀ h : k + r < s.size, blkB s[k + r] = false := fun h => by
      have h1 : runL blkB (s.data.toList.drop k) < (s.data.toList.drop k).length := by rw [hr, List.length_drop, HLEN.out]; omega
      have := runL_stop (f := blkB) (s.data.toList.drop k) h1
      simp only [hr, List.getElem_drop] at this
      exact this
    have HST := Lib.hid hst; have TQ := Lib.hid tp; clear hst tp hr TP
    go_upto_region 6 with (fail)
    refine R.out.mono ?_
    rintro e w1 ⟨rfl, rfl⟩
    go_upto_region 6 with (fail)
    by_cases hm : k + r = s.size
    · have t2 : decide ((k : Int) + (r : Int) = (s.size : Int)) = true := decide_eq_true (by omega)
      have hoa : (w1.alloc (.cells (tokC ⟨0, [], 0, k + r⟩).toArray 50)).ownsRow w.heap.size 50 4 (.slice a5 ts.length c5) ts.length (toksC ts) := own_only' OW.out ((Only.refl (fun _ => False) w1).alloc _) (fun _ _ h => h)
      have hys : ∀ j u, (tokC ⟨0, [], 0, k + r⟩)[j]? = some u → (w1.alloc (.cells (tokC ⟨0, [], 0, k + r⟩).toArray 50)).cell? ((⟨w1.heap.size, 0, none⟩ : Addr).add j) = some u := fun j u hu => by
        rw [addr_add]; exact range_of_block (cs := tokC ⟨0, [], 0, k + r⟩) (heap_new _ _) j u hu
      have hba : w.heap.size ≤ (w1.alloc (.cells (tokC ⟨0, [], 0, k + r⟩).toArray 50)).heap.size := by have := OO.out.size; simp; omega
      have hoA : Only (fun _ => False) w (w1.alloc (.cells (tokC ⟨0, [], 0, k + r⟩).toArray 50)) := OO.out.alloc _
      have HOA := Lib.hid hoa; have HYS := Lib.hid hys; have HBA := Lib.hid hba; have HOAA := Lib.hid hoA; clear hoa hys hba hoA
      unfold tokC at HOA HBA HOAA
      have hty : (tokC ⟨0, [], 0, k + r⟩) = [.int .u8 0, .string ⟨#[]⟩, .int .i64 0, .int .i64 ((k : Int) + (r : Int))] := rfl
      rw [hty] at HYS
      go_wp2_with ((refine wpList_append_own2 (o := ⟨some 29, _, _, _, _, _⟩) rfl (.tmp 25) (.tmp 28) 43 50 (by rfl) Tryz.underlying43 infoTok rfl (by decide) w.heap.size (.slice a5 ts.length c5) ts.length 1 1 (toksC ts) [.int .u8 0, .string ⟨#[]⟩, .int .i64 0, .int .i64 ((k : Int) + (r : Int))] ⟨w1.heap.size, 0, none⟩ (by rfl) (by rfl) HOA.out (by rfl) HYS.out (by intro u hu; simp [tokC] at hu; rcases hu with rfl | rfl | rfl | rfl <;> rfl) (by unfold maxLen; omega) (by omega) HBA.out ?_; intro v' w9 q1 q2 q3))
      have e : P = .ok (ts ++ [⟨0, [], 0, k + r⟩]) := by rw [← TQ.out, drop_all s (k + r) (by omega), toksA_nil]; rfl
      rw [e]
      have ho : Only (fun _ => False) w w9 := HOAA.out.trans' q2 (fun q hq h => by have := (hc3 q h).1; omega)
      have hq1 : w9.ownsRow w.heap.size 50 4 v' (ts ++ [(⟨0, [], 0, k + r⟩ : Tok)]).length (toksC (ts ++ [(⟨0, [], 0, k + r⟩ : Tok)])) := by
        rw [← toksC_snoc, List.length_append]; exact q1
      have HO9 := Lib.hid ho; have HQ1 := Lib.hid hq1; clear ho hq1 q1 q2 q3 hty
      go_wp2_with fail
      exact bodyPost_ret (v := .tuple #[v', .int .i64 0, .int .i64 0]) (by simp [results, Tryz.results8, go_sem]) rfl (TokRes.ok _ HQ1.out HO9.out)
    · have t2 : decide ((k : Int) + (r : Int) = (s.size : Int)) = false := decide_eq_false (by omega)
      have hlm : k + r < s.size := by omega
      have hb0 := HST.out hlm
      have tq := TQ.out
      rw [drop_get s (k + r) hlm] at tq
      by_cases c1 : (s[k + r].toNat : Int) = 35
      · have t3 : decide ((s[k + r].toNat : Int) = 35) = true := decide_eq_true c1
        rw [toksA_rem _ (by omega)] at tq
        obtain ⟨r2, hr2⟩ : ∃ r2, runL lineB (s.data.toList.drop (k + r + 1)) = r2 := ⟨_, rfl⟩
        rw [hr2, List.drop_drop] at tq
        have hrl2 := runL_le lineB (s.data.toList.drop (k + r + 1))
        rw [hr2, List.length_drop, HLEN.out] at hrl2
        have R2 := Lib.hid (run_line (s.extract (k + r) s.size) w1 (by rw [ByteArray.size_extract]; omega))
        rw [extract_end, drop_get s (k + r) hlm] at R2
        have e2 : runL lineB (s[k + r] :: s.data.toList.drop (k + r + 1)) = r2 + 1 := by
          have : lineB s[k + r] = true := by unfold lineB; rw [decide_eq_false (by omega)]; rfl
          rw [runL, if_pos this, hr2]
        rw [e2] at R2
        have TR := Lib.hid tq; clear tq hr2 e2 TQ
        go_wp2_with fail
        refine R2.out.mono ?_
        rintro e w2 ⟨rfl, rfl⟩
        go_wp2_with fail
        go_roundw
        case rel => exact ⟨k + r + 1 + r2, ts, by simp; omega, by omega, by omega, OW, OO, TR⟩
        case measure => simp [intOf]; omega
      · have t3 : decide ((s[k + r].toNat : Int) = 35) = false := decide_eq_false c1
        have T := Lib.hid (token_any (s.extract (k + r) s.size) w1 (by rw [ByteArray.size_extract]; omega) (by rw [ByteArray.size_extract]; omega))
        rw [extract_end, drop_get s (k + r) hlm] at T
        cases ho : oneP (s[k + r] :: s.data.toList.drop (k + r + 1)) with
        | bad off ee =>
          rw [ho] at T; unfold oneV tokV at T
          rw [toksA_bad _ hb0 (by omega) ho] at tq
          have TR := Lib.hid tq; clear tq TQ
          have hof := oneP_off ho
          have t4 : decide ((ee : Int) = 0) = false := decide_eq_false (by omega)
          rw [List.length_cons, List.length_drop, HLEN.out] at hof
          go_wp2_with fail
          refine T.out.mono ?_
          rintro e2 w2 ⟨rfl, O2⟩
          have hbx := heap_new w2 (.cells [.int .u8 0, .string ⟨#[]⟩, .int .i64 0, .int .i64 0].toArray 50)
          have hO2 : Only (fun _ => False) w (w2.alloc (.cells [.int .u8 0, .string ⟨#[]⟩, .int .i64 0, .int .i64 0].toArray 50)) := (OO.out.trans O2).alloc _
          have hsz : w.heap.size ≤ w2.heap.size := (OO.out.trans O2).size
          obtain ⟨b0, hb0'⟩ : ∃ b0, w2.heap.size = b0 := ⟨_, rfl⟩
          rw [hb0'] at hbx hsz
          have HBX := Lib.hid hbx; have HO2 := Lib.hid hO2; have HSZ := Lib.hid hsz; have OT := Lib.hid O2; clear hbx hO2 hsz O2
          go_wp2_with ((refine wpList_store_box (o := ⟨none, _, _, _, _, _⟩) rfl 50 (.tmp 7) (.tmp 46) (by rfl) b0 [.int .u8 0, .string ⟨#[]⟩, .int .i64 0, .int .i64 0] [.int .u8 0, .string ⟨#[]⟩, .int .i64 0, .int .i64 0] (by rfl) (by rfl) HBX.out (by rfl) (by kernel_rfl) (by intro u hu; simp at hu; rcases hu with rfl | rfl | rfl | rfl <;> rfl) ?_; intro w9 k1 k2))
          have hoW : Only (fun _ => False) w w9 := HO2.out.trans' k2 (fun q hq e => by have := HSZ.out; omega)
          have HOW := Lib.hid hoW; clear hoW k1 k2
          have e : P = .bad (k + r + off) ee := TR.out.symm
          rw [e]
          go_wp2_with fail
          exact bodyPost_ret (v := .tuple #[.slice none 0 0, .int .i64 ((k + r + off : Nat) : Int), .int .i64 (ee : Int)]) (by simp [results, Tryz.results8, go_sem]) rfl ⟨rfl, HOW.out⟩
        | ok kk tt nn len =>
          rw [ho] at T; unfold oneV tokV at T
          have hol := oneP_len ho
          rw [toksA_one _ hb0 (by omega) ho, ← drop_get s (k + r) hlm, List.drop_drop, Out.app_cons] at tq
          have TR := Lib.hid tq; clear tq TQ
          rw [List.length_cons, List.length_drop, HLEN.out] at hol
          go_wp2_with fail
          refine T.out.mono ?_
          rintro e2 w2 ⟨rfl, O2⟩
          have hbx := heap_new w2 (.cells [.int .u8 0, .string ⟨#[]⟩, .int .i64 0, .int .i64 0].toArray 50)
          have hO2 : Only (fun _ => False) w (w2.alloc (.cells [.int .u8 0, .string ⟨#[]⟩, .int .i64 0, .int .i64 0].toArray 50)) := (OO.out.trans O2).alloc _
          have hsz : w.heap.size ≤ w2.heap.size := (OO.out.trans O2).size
          obtain ⟨b0, hb0'⟩ : ∃ b0, w2.heap.size = b0 := ⟨_, rfl⟩
          rw [hb0'] at hbx hsz
          have HBX := Lib.hid hbx; have HO2 := Lib.hid hO2; have HSZ := Lib.hid hsz; have OT := Lib.hid O2; clear hbx hO2 hsz O2
          go_upto_region 13 with ((refine wpList_store_box (o := ⟨none, _, _, _, _, _⟩) rfl 50 (.tmp 7) (.tmp 46) (by rfl) b0 [.int .u8 0, .string ⟨#[]⟩, .int .i64 0, .int .i64 0] [.int .u8 (kk : Int), .string ⟨tt.toArray⟩, .int .i64 nn, .int .i64 0] (by rfl) (by rfl) HBX.out (by rfl) (by kernel_rfl) (by intro u hu; simp at hu; rcases hu with rfl | rfl | rfl | rfl <;> rfl) ?_; intro w9 k1 k2))
          obtain ⟨z0, z1, z2, z3⟩ := box4 k1
          have fz : w9.frozen? ⟨b0, 3, none⟩ = false := by simp [World.frozen?, k1]
          have h10 := heap_set (o := 3) k1 (.int .i64 ((k : Int) + (r : Int)))
          have ho10 : Only (fun _ => False) w (w9.setCell ⟨b0, 3, none⟩ (.int .i64 ((k : Int) + (r : Int)))) := (HO2.out.trans' k2 (fun q hq e => by have := HSZ.out; omega)).setCell (.inr HSZ.out) _
          have hr10 : Only (fun q => q = b0) w2 (w9.setCell ⟨b0, 3, none⟩ (.int .i64 ((k : Int) + (r : Int)))) := (((Only.refl _ w2).alloc _).trans' k2 (fun _ _ h => h)).setCell (.inl rfl) _
          have H10 := Lib.hid h10; have HO10 := Lib.hid ho10; have HR10 := Lib.hid hr10; clear h10 ho10 hr10 k1 k2
          go_upto_region 14 with (fail)
          clear z0 z1 z2 z3 fz
          generalize w9.setCell ⟨b0, 3, none⟩ (.int .i64 ((k : Int) + (r : Int))) = w10 at *
          obtain ⟨z0, z1, z2, z3⟩ := box4 (show w10.heap[b0]? = some (.cells #[.int .u8 (kk : Int), .string ⟨tt.toArray⟩, .int .i64 nn, .int .i64 ((k : Int) + (r : Int))] 50 (0, 0)) from H10.out)
          have hall : Only (fun q => q = b0) w1 w10 := (OT.out.mono (T := fun q => q = b0) (fun _ _ h => h.elim)).trans HR10.out
          have hb1 : w1.heap.size ≤ b0 := by have := OT.out.size; omega
          have hoa : (w10.alloc (.cells [.int .u8 (kk : Int), .string ⟨tt.toArray⟩, .int .i64 nn, .int .i64 ((k : Int) + (r : Int))].toArray 50)).ownsRow w.heap.size 50 4 (.slice a5 ts.length c5) ts.length (toksC ts) := own_only' OW.out (hall.alloc _) (fun q h e => by have := (hc3 q h).2; omega)
          have hys : ∀ j u, ([.int .u8 (kk : Int), .string ⟨tt.toArray⟩, .int .i64 nn, .int .i64 ((k : Int) + (r : Int))] : List Value)[j]? = some u → (w10.alloc (.cells [.int .u8 (kk : Int), .string ⟨tt.toArray⟩, .int .i64 nn, .int .i64 ((k : Int) + (r : Int))].toArray 50)).cell? ((⟨w10.heap.size, 0, none⟩ : Addr).add j) = some u := fun j u hu => by
            rw [addr_add]; exact range_of_block (cs := [.int .u8 (kk : Int), .string ⟨tt.toArray⟩, .int .i64 nn, .int .i64 ((k : Int) + (r : Int))]) (heap_new _ _) j u hu
          have hba : w.heap.size ≤ (w10.alloc (.cells [.int .u8 (kk : Int), .string ⟨tt.toArray⟩, .int .i64 nn, .int .i64 ((k : Int) + (r : Int))].toArray 50)).heap.size := by have := HO10.out.size; simp; omega
          have hoA : Only (fun _ => False) w (w10.alloc (.cells [.int .u8 (kk : Int), .string ⟨tt.toArray⟩, .int .i64 nn, .int .i64 ((k : Int) + (r : Int))].toArray 50)) := HO10.out.alloc _
          have HOA := Lib.hid hoa; have HYS := Lib.hid hys; have HBA := Lib.hid hba; have HOAA := Lib.hid hoA; clear hoa hys hba hoA hall hb1
          go_wp2_with ((refine wpList_append_own2 (o := ⟨some 61, _, _, _, _, _⟩) rfl (.tmp 58) (.tmp 60) 43 50 (by rfl) Tryz.underlying43 infoTok rfl (by decide) w.heap.size (.slice a5 ts.length c5) ts.length 1 1 (toksC ts) [.int .u8 (kk : Int), .string ⟨tt.toArray⟩, .int .i64 nn, .int .i64 ((k : Int) + (r : Int))] ⟨w10.heap.size, 0, none⟩ (by rfl) (by rfl) HOA.out (by rfl) HYS.out (by intro u hu; simp [tokC] at hu; rcases hu with rfl | rfl | rfl | rfl <;> rfl) (by unfold maxLen; omega) (by omega) HBA.out ?_; intro v' w9 q1 q2 q3))
          have ho9 : Only (fun _ => False) w w9 := HOAA.out.trans' q2 (fun q hq h => by have := (hc3 q h).1; omega)
          have hq1 : w9.ownsRow w.heap.size 50 4 v' (ts ++ [(⟨kk, tt, nn, k + r⟩ : Tok)]).length (toksC (ts ++ [(⟨kk, tt, nn, k + r⟩ : Tok)])) := by
            rw [← toksC_snoc, List.length_append]; exact q1
          have HO9 := Lib.hid ho9; have HQ1 := Lib.hid hq1; clear ho9 hq1 q1 q2 q3
          go_wp2_with fail
          go_roundw
          case rel => exact ⟨k + r + len, ts ++ [⟨kk, tt, nn, k + r⟩], by simp, by omega, by rw [List.length_append, List.length_singleton]; omega, HQ1, HO9, TR⟩
          case measure => simp [intOf]; omega
end Go.Proofs.YtgephneppgcnlaaGreatDoor
