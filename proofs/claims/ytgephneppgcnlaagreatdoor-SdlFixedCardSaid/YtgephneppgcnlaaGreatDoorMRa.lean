/- The document's reader: a value that is to be opened. The document's reader of declarations: inputs. The document's reader of declarations: names with a sign between. The document's reader of declarations: a declaration of an input; a text with just one. The document's declarations (ref07.Types) of a text with one declaration of an input. -/
import Derived.Test.YtgephneppgcnlaaGreatDoorRfv
import Derived.Test.YtgephneppgcnlaaGreatDoorSdC
import Derived.Test.YtgephneppgcnlaaGreatDoorTdk
import Derived.Test.YtgephneppgcnlaaGreatDoorRtks
namespace Go.Proofs.YtgephneppgcnlaaGreatDoor
open Go Go.RowKit
set_option linter.unusedVariables false
set_option linter.unusedSimpArgs false

set_option maxRecDepth 100000 in
set_option maxHeartbeats 8000000 in
theorem fValue_any : ∀ (n : Nat) (fx : Bool) (b : Nat) (all : RL) (σ0 : PR Unit) (w : World), all.dp + n = 24 → Rf w b all σ0 →
    Calls Tryz.prog 54 #[.pointer (some ⟨b, 0, none⟩), .bool fx] w (FAns w b all σ0 (fun w' x v => aggP w.heap.size valC w' x v) valF (valueP fx n))
  | n, fx, b, all, .bad a c, w, hdp, h => (fValue_stop b all (by omega) (.bad a c) a c fx w (by unfold opn; split <;> rfl) h).mono fun e w' ⟨h1, h2, h3⟩ => ⟨_, h1, ⟨0, 0, [], none, 0, 0, none, 0, 0, rfl⟩, h2, fun x q e => (by cases e), h3⟩
  | 0, fx, b, all, .ok u r, w, hdp, h => (fValue_stop b all (by omega) (.ok u r) (atT r) 5 fx w (if_pos (by omega)) h).mono fun e w' ⟨h1, h2, h3⟩ => ⟨_, h1, ⟨0, 0, [], none, 0, 0, none, 0, 0, rfl⟩, h2, fun x q e => (by cases e), h3⟩
  | n + 1, fx, b, all, .ok u r, w, hdp, h => by
    have hbl := h.lt
    have hopn : opn all.dp (.ok u r) = .ok () r := if_neg (by omega)
    obtain ⟨B, hB⟩ : ∃ B, w.heap.size = B := ⟨_, rfl⟩
    have hbB : b < B := by omega
    obtain ⟨P, hP⟩ : ∃ P, valueB fx (valueP fx n) r = P := ⟨_, rfl⟩
    have HP : ∀ w' v, valF v → Rf w' b all P.unit → (∀ x q, P = .ok x q → aggP B valC w' x v) → Only (fun k => k = b) w w' → FAns w b all (.ok u r) (fun w' x v => aggP w.heap.size valC w' x v) valF (valueP fx (n + 1)) (.returned v) w' := fun w' v q1 q2 q3 q4 => ⟨v, rfl, q1, by rw [show ((PR.ok u r : PR Unit).bind fun _ => valueP fx (n + 1)) = P from hP]; exact q2, fun x q e => by rw [hB]; exact q3 x q (hP.symm.trans e), q4⟩
    obtain ⟨w0, hw0⟩ : ∃ x, w.alloc (.cells #[.int .u8 0, .int .i64 0, .string ⟨#[]⟩, .slice none 0 0, .slice none 0 0] 37) = x := ⟨_, rfl⟩
    obtain ⟨w1, hw1⟩ : ∃ x, w0.alloc (.cells #[.int .u8 0, .int .i64 0, .string ⟨#[]⟩, .slice none 0 0, .slice none 0 0] 37) = x := ⟨_, rfl⟩
    obtain ⟨Y, hY⟩ : ∃ Y, w0.heap.size = Y := ⟨_, rfl⟩
    have hs0 : w0.heap.size = B + 1 := by rw [← hw0, World.size_alloc, hB]
    have hr0 : w0.heap[B]? = some (.cells #[.int .u8 0, .int .i64 0, .string ⟨#[]⟩, .slice none 0 0, .slice none 0 0] 37 (0, 0)) := by rw [← hw0, ← hB]; exact heap_new _ _
    have hr1 : w1.heap[B]? = some (.cells #[.int .u8 0, .int .i64 0, .string ⟨#[]⟩, .slice none 0 0, .slice none 0 0] 37 (0, 0)) := by rw [← hw1]; exact heap_old hr0 _
    have hy1 : w1.heap[Y]? = some (.cells #[.int .u8 0, .int .i64 0, .string ⟨#[]⟩, .slice none 0 0, .slice none 0 0] 37 (0, 0)) := by rw [← hw1, ← hY]; exact heap_new _ _
    have o1 : Only (fun _ => False) w w1 := by rw [← hw1, ← hw0]; exact ((Only.refl _ w).alloc _).alloc _
    have J := Lib.hid (fOpen_any b all (by omega) (.ok u r) w1 (h.still o1))
    rw [hopn] at J
    have hBY : B < Y := by omega
    have IH := Lib.hid (fun (w' : World) (h' : Rf w' b all.in_ (.ok () r)) => fvalue_any n fx b all.in_ (by show all.dp + 1 + n = 24; omega) (fun σ w2 h2 => fValue_any n fx b all.in_ σ w2 (by show all.dp + 1 + n = 24; omega) h2) r w' h')
    have HDP := Lib.hid (show all.dp ≤ 1000 by omega)
    have HPP := Lib.hid HP; have HPE := Lib.hid hP
    have HB := Lib.hid hB; have HW0 := Lib.hid hw0; have HW1 := Lib.hid hw1; have HY := Lib.hid hY; have HR1 := Lib.hid hr1; have HY1 := Lib.hid hy1; have O1 := Lib.hid o1; have HWB := Lib.hid (show w.heap.size ≤ B by omega)
    clear HP hP hB hw0 hw1 hY hs0 hr0 hr1 hy1 o1 h hbl hopn hdp
    generalize (FAns w b all (.ok u r) (fun w' x v => aggP w.heap.size valC w' x v) valF (valueP fx (n + 1))) = Q at *
    go_enter Tryz.func54, Tryz.ntmps54
    go_upto_region 1 with (fail)
    rw [HB.out, HW0.out]
    go_upto_region 2 with (fail)
    rw [HY.out, HW1.out]
    clear HW0 HW1
    go_wp2_with fail
    refine J.out.mono ?_
    rintro e w2 ⟨rfl, hd2, o2⟩
    have hr2 := (o2.block B (Array.getElem?_eq_some_iff.1 HR1.out).1 (by omega)).trans HR1.out
    have hy2 := (o2.block Y (Array.getElem?_eq_some_iff.1 HY1.out).1 (by omega)).trans HY1.out
    have J2 := Lib.hid (IH.out w2 hd2)
    have HR2 := Lib.hid hr2; have HY2 := Lib.hid hy2; have HO2 := Lib.hid ((O1.out.mono (T := fun k => k = b) (fun _ _ h => h.elim)).trans o2)
    clear hd2 hr2 hy2 o2 J IH HR1 HY1 O1 HY
    go_wp2_with fail
    refine J2.out.mono ?_
    rintro e w3 ⟨v, rfl, ⟨kd, nm, sv, a1, l1, p1, a2, l2, p2, rfl⟩, hd, hv, o3⟩
    have hsz : B < w2.heap.size := (Array.getElem?_eq_some_iff.1 HR2.out).1
    have hsy : Y < w2.heap.size := (Array.getElem?_eq_some_iff.1 HY2.out).1
    have hd : Rf w3 b all.in_ (valueB fx (valueP fx n) r).unit := hd
    rw [HPE.out] at hd
    have hvc : ∀ x q, P = .ok x q → CellsAt w3 (fun q => Y < q) (valC x) [.int .u8 (kd : Int), .int .i64 nm, .string ⟨sv.toArray⟩, .slice a1 l1 p1, .slice a2 l2 p2] := fun x q e => CellsAt.weaken (fun q _ h => by have h : w2.heap.size ≤ q := h; show Y < q; omega) _ _ (aggF_cells (hv x q (show valueB fx (valueP fx n) r = .ok x q from HPE.out.trans e)))
    have HR3 := Lib.hid ((o3.block B (Array.getElem?_eq_some_iff.1 HR2.out).1 (by omega)).trans HR2.out)
    have HY3 := Lib.hid ((o3.block Y (Array.getElem?_eq_some_iff.1 HY2.out).1 (by omega)).trans HY2.out)
    have HO3 := Lib.hid (HO2.out.trans o3); have HD3 := Lib.hid hd; have HVC := Lib.hid hvc
    clear hd hv hvc o3 J2 HR2 HY2 HO2
    go_upto_region 4 with ((refine wpList_store_box (o := ⟨none, _, _, _, _, _⟩) rfl 37 (.tmp 5) (.tmp 10) (by rfl) Y [.int .u8 0, .int .i64 0, .string ⟨#[]⟩, .slice none 0 0, .slice none 0 0] [.int .u8 (kd : Int), .int .i64 nm, .string ⟨sv.toArray⟩, .slice a1 l1 p1, .slice a2 l2 p2] (by rfl) (by rfl) HY3.out (by rfl) (by kernel_rfl) (by intro u hu; simp at hu; rcases hu with rfl | rfl | rfl | rfl | rfl <;> rfl) ?_; intro w4 k1 k2))
    have HY4 := Lib.hid (show w4.heap[Y]? = some (.cells #[.int .u8 (kd : Int), .int .i64 nm, .string ⟨sv.toArray⟩, .slice a1 l1 p1, .slice a2 l2 p2] 37 (0, 0)) from k1)
    have HR4 := Lib.hid ((k2.block B (Array.getElem?_eq_some_iff.1 HR3.out).1 (by omega)).trans HR3.out)
    have hd4 := HD3.out.only k2 (fun k hk e => by have e : k = Y := e; omega)
    obtain ⟨dv, kd2, kfz, -⟩ := Rf.dcell hd4
    obtain ⟨xd, hxd⟩ : ∃ x, IntKind.i64.wrap (dv - 1) = x := ⟨_, rfl⟩
    have hd5 := Rf.up hd4 HDP.out kd2
    rw [hxd] at hd5
    have o5 : Only (fun k => k = b) w4 (w4.setCell ⟨b, 2, none⟩ (.int .i64 xd)) := (Only.refl (fun k => k = b) w4).setCell (.inl rfl) _
    have hO5 : Only (fun k => k = b) w (w4.setCell ⟨b, 2, none⟩ (.int .i64 xd)) := (HO3.out.trans' k2 (fun q hq e => by have e : q = Y := e; have := HWB.out; omega)).trans o5
    have hvc5 : ∀ x q, P = .ok x q → CellsAt (w4.setCell ⟨b, 2, none⟩ (.int .i64 xd)) (fun q => Y < q) (valC x) [.int .u8 (kd : Int), .int .i64 nm, .string ⟨sv.toArray⟩, .slice a1 l1 p1, .slice a2 l2 p2] := fun x q e => CellsAt.only o5 (fun k hk e => by have hk : Y < k := hk; have e : k = b := e; omega) _ _ (CellsAt.only k2 (fun k hk e => by have hk : Y < k := hk; have e : k = Y := e; omega) _ _ (HVC.out x q e))
    obtain ⟨w5, hw5⟩ : ∃ y, w4.setCell ⟨b, 2, none⟩ (.int .i64 xd) = y := ⟨_, rfl⟩
    rw [hw5] at hd5 o5 hO5 hvc5
    have HR5 := Lib.hid ((o5.block B (Array.getElem?_eq_some_iff.1 HR4.out).1 (by omega)).trans HR4.out)
    have HY5 := Lib.hid ((o5.block Y (Array.getElem?_eq_some_iff.1 HY4.out).1 (by omega)).trans HY4.out)
    have HD5 := Lib.hid hd5; have HO5 := Lib.hid hO5; have HW5 := Lib.hid hw5; have HV5 := Lib.hid hvc5
    clear hd5 hO5 hw5 hvc5 o5 hd4 k1 k2 HY4 HR4 HR3 HY3 HO3 HD3 HVC hsz hsy
    go_upto_region 5 with (fail)
    rw [HW5.out]
    clear hxd HW5 kd2 kfz
    obtain ⟨y0, y1, y2, y3, y4, yz⟩ := boxN5 HY5.out
    go_wp2_with ((refine wpList_store_box (o := ⟨none, _, _, _, _, _⟩) rfl 37 (.tmp 4) (.tmp 18) (by rfl) B [.int .u8 0, .int .i64 0, .string ⟨#[]⟩, .slice none 0 0, .slice none 0 0] [.int .u8 (kd : Int), .int .i64 nm, .string ⟨sv.toArray⟩, .slice a1 l1 p1, .slice a2 l2 p2] (by rfl) (by rfl) HR5.out (by rfl) (by kernel_rfl) (by intro u hu; simp at hu; rcases hu with rfl | rfl | rfl | rfl | rfl <;> rfl) ?_; intro w9 k1 k2))
    clear y0 y1 y2 y3 y4 yz
    obtain ⟨y0, y1, y2, y3, y4, -⟩ := boxN5 k1
    exact bodyPost_ret (v := .agg #[.int .u8 (kd : Int), .int .i64 nm, .string ⟨sv.toArray⟩, .slice a1 l1 p1, .slice a2 l2 p2]) (by simp [results, Tryz.results54, go_sem, y0, y1, y2, y3, y4]) rfl (HPP.out w9 _ ⟨kd, nm, sv, a1, l1, p1, a2, l2, p2, rfl⟩ (HD5.out.only k2 (fun k hk e => by have e : k = B := e; omega)) (fun x q e => ⟨_, rfl, CellsAt.weaken (fun q _ h => by have h : Y < q := h; show B ≤ q; omega) _ _ (CellsAt.only k2 (fun k hk e => by have hk : Y < k := hk; have e : k = B := e; omega) _ _ (HV5.out x q e))⟩) (HO5.out.trans' k2 (fun q hq e => by have e : q = B := e; have := HWB.out; omega)))
end Go.Proofs.YtgephneppgcnlaaGreatDoor
namespace Go.Proofs.YtgephneppgcnlaaGreatDoor
open Go Go.RowKit
set_option linter.unusedVariables false
set_option linter.unusedSimpArgs false

/-- Ahead of a round: what has been read stands in the row v. -/
def LI {α : Type} (p : List Tok → PR α) (c : List UInt8) (enc : α → List Cell) (N : Nat) (T : TypeId) (total : PR (List α)) (w : World) (b : Nat) (all : RL) (lo : Nat) (v : Value) (first : Bool) (wr : World) : Prop :=
  ∃ (σ : PR Unit) (rs : List (List Cell)), Rf wr b all σ ∧ OwnRow wr lo T N v rs ∧ Only (fun k => k = b) w wr ∧ LS p c total first rs.length (fun acc => rs = acc.map enc) σ
def rowF (v : Value) : Prop := ∃ (a : Option Addr) (l c : Nat), v = .slice a l c
theorem infoFdF : (Tryz.prog.info? 42).map (fun i => (i.zero, i.size, i.bytes)) = some (some (.agg #[.string ByteArray.empty, .slice none 0 0, .string ByteArray.empty, .slice none 0 0, .bool false, .bool false, .int .u8 0, .int .i64 0, .string ByteArray.empty, .slice none 0 0, .slice none 0 0]), 11, 176) := by kernel_rfl
set_option maxRecDepth 100000 in
set_option maxHeartbeats 40000000 in
theorem finputs_any (b : Nat) (all : RL) (hdp : all.dp = 0) (σ0 : PR Unit) (c : List UInt8) (w : World) (h : Rf w b all σ0) :
    Calls Tryz.prog 36 #[.pointer (some ⟨b, 0, none⟩), .string ⟨c.toArray⟩] w (FAns w b all σ0 (rowP w.heap.size 11 inC) rowF (fun r => manyP inP c (r.length + 1) [] r)) := by
  have hbl := h.lt
  obtain ⟨tl, htl⟩ : ∃ x, (σ0.bind fun _ r => loopP inP c true [] r) = x := ⟨_, rfl⟩
  have htl2 : (σ0.bind fun _ => fun r => manyP inP c (r.length + 1) [] r) = tl := by rw [← htl]; cases σ0 with
    | bad a c => rfl
    | ok u r => exact manyP_loop inP_takes _ _ _ (by omega)
  have HP : ∀ w' (a : Option Addr) (l e : Nat) σ, Rf w' b all σ → σ = tl.unit → (∀ x q, tl = .ok x q → CellAt w' (fun q => w.heap.size ≤ q) (.row 11 (x.map inC)) (.slice a l e)) → Only (fun k => k = b) w w' → FAns w b all σ0 (rowP w.heap.size 11 inC) rowF (fun r => manyP inP c (r.length + 1) [] r) (.returned (.slice a l e)) w' := fun w' a l e σ h1 h2 h3 h4 => ⟨_, rfl, ⟨a, l, e, rfl⟩, by rw [htl2, ← h2]; exact h1, fun x q e => h3 x q (by rw [← htl2]; exact e), h4⟩
  have hls := LS.start (p := inP) (c := c) true (K := fun acc => ([] : List (List Cell)) = acc.map inC) rfl (σ := σ0) (fun u r e => by rw [e] at h; exact h.few.1)
  rw [htl] at hls
  have HI := Lib.hid (show LI inP c inC 11 42 tl w b all w.heap.size (.slice none 0 0) true w from ⟨σ0, [], h, OwnRow.nil _ _ _ _, Only.refl _ _, hls⟩)
  have HPP := Lib.hid HP; have HLO := Lib.hid hbl; have HWLO := Lib.hid (Nat.le_refl w.heap.size); have HTK := Lib.hid inP_takes
  have HAD := Lib.hid (show all.dp + 24 = 24 by omega)
  clear HP htl htl2 hls h hdp
  generalize (FAns w b all σ0 (rowP w.heap.size 11 inC) rowF (fun r => manyP inP c (r.length + 1) [] r)) = Q at *
  go_enter Tryz.func36, Tryz.ntmps36
  go_wp2_with fail
  go_loopw [5, 6] (fun v5 v6 wr => ∃ first : Bool, v6 = .bool first ∧ Hid (LI inP c inC 11 42 tl w b all w.heap.size v5 first wr)) (fun _ _ wr => muF wr b all)
  case atStart => exact ⟨true, rfl, HI⟩
  case round =>
    obtain ⟨first, rfl, hrel⟩ := hrel
    obtain ⟨σ, rs, hd, hown, hon, hls⟩ := hrel.out
    obtain ⟨aL, cL, eL, fL1, fL2, fL3⟩ := hown.form
    subst eL
    have fL2n : cL ≤ 9223372036854775807 := by unfold maxLen at fL2; omega
    have HOWN := Lib.hid hown; have HDr := Lib.hid hd; have HOr := Lib.hid hon; have HLS := Lib.hid hls; have HFL := Lib.hid fL3
    have HLW := Lib.hid (show w.heap.size ≤ wr.heap.size from hon.size)
    obtain ⟨e0, ce, cz, hσ⟩ := hd.err
    clear hown hd hon hls fL2 fL3 hrel HI
    rcases hσ with ⟨rr, rfl, rfl⟩ | ⟨ab, rfl, he0⟩
    rotate_left
    · -- a fault: the loop ends
      have t1 : ((e0 : Int) == 0) = false := by simp; omega
      have htl := HLS.out.bad _ _ rfl
      have HEND := Lib.hid (HPP.out wr aL rs.length cL (.bad ab e0) HDr.out (by rw [htl]; rfl) (fun x q e => (by rw [htl] at e; cases e)) HOr.out)
      clear htl he0
      go_wp2_with fail
      clear ce cz
      first
        | exact HEND.out
        | (go_ret; exact HEND.out)
    have T := Lib.hid (fEat_any b all (.ok () rr) c wr HDr.out)
    unfold tookF at T
    obtain ⟨bb, hb⟩ : ∃ x, tst (.ok () rr : PR Unit) (isT c) = x := ⟨_, rfl⟩
    rw [hb] at T
    have HBT := Lib.hid (show isT c rr = bb from hb); clear hb
    by_cases hstop : first = false ∧ bb = true
    · obtain ⟨rfl, rfl⟩ := hstop
      rw [if_pos rfl] at T
      obtain ⟨acc, hK, htl⟩ := HLS.out.stop HBT.out
      have HK := Lib.hid hK; have HTL := Lib.hid htl
      clear hK htl
      go_wp2_with fail
      refine T.out.mono ?_
      rintro e w20 ⟨rfl, hd, o4⟩
      clear ce cz
      have HW20 := HOWN.out.only o4 (fun k h1 h2 e => by have e : k = b := e; have := HLO.out; omega)
      have HEND := Lib.hid (HPP.out w20 aL rs.length cL (.ok () rr.tail) hd (by rw [HTL.out]; rfl) (fun x q e => (by rw [HTL.out] at e; injection e with e _; subst e; rw [← HK.out]; exact HW20.cell)) (HOr.out.trans o4))
      clear hd o4 T HW20
      go_wp2_with fail
      first
        | exact HEND.out
        | (go_ret; exact HEND.out)
    have hcl : first = true ∨ isT c rr = false := by
      have := HBT.out
      cases first with
      | true => exact .inl rfl
      | false => right; rw [this]; cases bb with | false => rfl | true => exact absurd ⟨rfl, rfl⟩ hstop
    have hfb : first = true ∨ (first = false ∧ bb = false) := by
      cases first with
      | true => exact .inl rfl
      | false => right; cases bb with | false => exact ⟨rfl, rfl⟩ | true => exact absurd ⟨rfl, rfl⟩ hstop
    have HCL := Lib.hid hcl
    have HFEW := Lib.hid (show rs.length + 1 ≤ 1000000 by have h1 := (HLS.out.ok _ _ rfl).1; have h2 := HDr.out.few.2; omega)
    clear hcl hstop
    go_upto_region 3 with (fail)
    go_cut [21] from 8 to 21 (fun v w' => v = .bool true ∧ Rf w' b all (.ok () rr) ∧ Only (fun k => k = b) wr w')
    case first =>
      clear HCL HFEW
      rcases hfb with rfl | ⟨rfl, rfl⟩
      · have HDD := HDr
        clear T
        go_wp2_with fail
        clear ce cz
        go_meet
        case rel => exact ⟨rfl, HDD.out, Only.refl _ _⟩
      · rw [if_neg (by decide)] at T
        go_wp2_with fail
        refine T.out.mono ?_
        rintro e w20 ⟨rfl, hd, o4⟩
        have HD2 := Lib.hid hd; have HO2 := Lib.hid o4
        clear ce cz hd o4
        go_wp2_with fail
        go_meet
        case rel => exact ⟨rfl, HD2.out, HO2.out⟩
    case rest =>
    obtain ⟨rfl, hd0, ho0⟩ := hcut
    obtain ⟨w0, hw0⟩ : ∃ x, wc = x := ⟨_, rfl⟩
    rw [hw0] at hd0 ho0 ⊢
    obtain ⟨σ0, hs0⟩ : ∃ σ : PR Unit, PR.ok () rr = σ := ⟨_, rfl⟩
    rw [hs0] at hd0
    obtain ⟨total, htot⟩ : ∃ x, inP rr = x := ⟨_, rfl⟩
    have hj := Jn.start σ0 inP
    rw [← hs0, show ((PR.ok () rr : PR Unit).bind fun _ => inP) = total from htot, hs0] at hj
    have HD0 := Lib.hid hd0; have HO0 := Lib.hid ho0; have HTOT := Lib.hid htot
    clear hw0 hs0 hd0 ho0 htot T HBT ce cz hfb
    unfold inP at hj
    have HJ0 := Lib.hid hj; clear hj
    have J := Lib.hid (fName_any b all σ0 w0 HD0.out)
    go_wp2_with fail
    refine J.out.mono ?_
    rintro e w1 ⟨v, rfl, ⟨s1, rfl⟩, hd, hv, o4⟩
    have hv : ∀ x q, (σ0.bind fun _ => nameP) = .ok x q → s1 = x := fun x q e => strF_inj (hv x q e)
    obtain ⟨σ1, hσ⟩ : ∃ z, (σ0.bind fun _ => nameP).unit = z := ⟨_, rfl⟩
    rw [hσ] at hd
    have hj := Jn.call (fun x => s1 = x) HJ0.out hσ.symm hv
    have HJ1 := Lib.hid hj; have HD1 := Lib.hid hd
    clear hj hd hv hσ HJ0 J
    have HO1 := Lib.hid (HO0.out.trans' o4 (fun q hq e => by exact e))
    clear o4
    clear HO0 HD0
    obtain ⟨Y, hY⟩ : ∃ Y, w1.heap.size = Y := ⟨_, rfl⟩
    have HWY := Lib.hid (show wr.heap.size ≤ Y by have := HO1.out.size; omega)
    have hbY : b < Y := by have := HD1.out.lt; omega
    obtain ⟨w2, hw2⟩ : ∃ x, w1.alloc (.cells #[.string ⟨s1.toArray⟩, .slice none 0 0, .string ⟨#[]⟩, .slice none 0 0, .bool false, .bool false, .int .u8 0, .int .i64 0, .string ⟨#[]⟩, .slice none 0 0, .slice none 0 0] 42) = x := ⟨_, rfl⟩
    have hy2 : w2.heap[Y]? = some (.cells #[.string ⟨s1.toArray⟩, .slice none 0 0, .string ⟨#[]⟩, .slice none 0 0, .bool false, .bool false, .int .u8 0, .int .i64 0, .string ⟨#[]⟩, .slice none 0 0, .slice none 0 0] 42 (0, 0)) := by rw [← hw2, ← hY]; exact heap_new _ _
    have oa2 : Only (fun _ => False) w1 w2 := by rw [← hw2]; exact (Only.refl _ _).alloc _
    have HY2 := Lib.hid hy2; have HD2 := Lib.hid (HD1.out.still oa2); have HO2 := Lib.hid (HO1.out.trans' oa2 (fun q _ e => e.elim)); have HW2 := Lib.hid hw2; have HYY := Lib.hid hY; have HJ2 := HJ1
    clear hy2 hw2 hY oa2 HD1 HO1 HJ1
    go_upto_region 6 with (fail)
    rw [HYY.out, HW2.out]
    clear HYY HW2
    have J := Lib.hid (fMust_any b all σ1 [58] w2 HD2.out)
    go_wp2_with fail
    refine J.out.mono ?_
    rintro e w3 ⟨rfl, hd, o4⟩
    have hv : ∀ x q, (σ1.bind fun _ => wantP [58]) = .ok x q → True := fun _ _ _ => trivial
    obtain ⟨σ3, hσ⟩ : ∃ z, (σ1.bind fun _ => wantP [58]).unit = z := ⟨_, rfl⟩
    rw [hσ] at hd
    have hj := Jn.call (fun _ => True) HJ2.out hσ.symm hv
    have HJ3 := Lib.hid hj; have HD3 := Lib.hid hd
    clear hj hd hv hσ HJ2 J
    have hy3 := (o4.block Y (Array.getElem?_eq_some_iff.1 HY2.out).1 (by omega)).trans HY2.out
    have HY3 := Lib.hid hy3
    have HO3 := Lib.hid (HO2.out.trans' o4 (fun q hq e => by exact e))
    clear hy3
    clear o4
    clear HO2 HD2 HY2
    have J := Lib.hid (fType_any 24 b all σ3 w3 HAD.out HD3.out)
    go_wp2_with fail
    refine J.out.mono ?_
    rintro e w4 ⟨v, rfl, ⟨st, at1, lt1, et1, bt1, rfl⟩, hd, hv, o4⟩
    have hsy : Y < w3.heap.size := (Array.getElem?_eq_some_iff.1 HY3.out).1
    have hv : ∀ x q, (σ3.bind fun _ => typP 24) = .ok x q → CellsAt w4 (fun q => Y < q) (trC x) [.string ⟨st.toArray⟩, .slice at1 lt1 et1, .bool bt1] := fun x q e => CellsAt.weaken (fun q _ h => by have h : w3.heap.size ≤ q := h; show Y < q; omega) _ _ (aggF_cells (hv x q e))
    obtain ⟨σ4, hσ⟩ : ∃ z, (σ3.bind fun _ => typP 24).unit = z := ⟨_, rfl⟩
    rw [hσ] at hd
    have hj := Jn.call (fun x => CellsAt w4 (fun q => Y < q) (trC x) [.string ⟨st.toArray⟩, .slice at1 lt1 et1, .bool bt1]) HJ3.out hσ.symm hv
    have HJ4 := Lib.hid hj; have HD4 := Lib.hid hd
    clear hj hd hv hσ HJ3 J hsy
    have hy4 := (o4.block Y (Array.getElem?_eq_some_iff.1 HY3.out).1 (by omega)).trans HY3.out
    have HY4 := Lib.hid hy4
    have HO4 := Lib.hid (HO3.out.trans' o4 (fun q hq e => by exact e))
    clear hy4
    have HC4_4 := Lib.hid (Only.refl (fun k => k ≤ Y) w4)
    clear o4
    clear HO3 HD3 HY3
    go_upto_region 8 with ((refine wpList_store_part (o := ⟨none, _, _, _, _, _⟩) rfl 40 (.tmp 29) (.tmp 28) (by rfl) Y 2 42 [.string ⟨s1.toArray⟩, .slice none 0 0] [.string ⟨#[]⟩, .slice none 0 0, .bool false] [.string ⟨st.toArray⟩, .slice at1 lt1 et1, .bool bt1] [.bool false, .int .u8 0, .int .i64 0, .string ⟨#[]⟩, .slice none 0 0, .slice none 0 0] (by rfl) (by rfl) HY4.out (by rfl) (by rfl) (by kernel_rfl) (by intro u hu; simp at hu; rcases hu with rfl | rfl | rfl <;> rfl) ?_; intro w5 k1 k2))
    have hy5 : w5.heap[Y]? = some (.cells #[.string ⟨s1.toArray⟩, .slice none 0 0, .string ⟨st.toArray⟩, .slice at1 lt1 et1, .bool bt1, .bool false, .int .u8 0, .int .i64 0, .string ⟨#[]⟩, .slice none 0 0, .slice none 0 0] 42 (0, 0)) := k1
    have HY5 := Lib.hid hy5
    have HD5 := Lib.hid (HD4.out.only k2 (fun k hk e => by omega)); have HJ5 := HJ4
    have HC4_5 := Lib.hid (HC4_4.out.trans' k2 (fun q hq e => by have e : q = Y := e; show q ≤ Y; omega))
    have HO5 := Lib.hid (HO4.out.trans' k2 (fun q hq e => by have e : q = Y := e; have := HWY.out; omega))
    clear hy5 k1 k2 HJ4
    clear HO4 HD4 HY4 HC4_4
    have J := Lib.hid (fEat_any b all σ4 [61] w5 HD5.out)
    unfold tookF at J
    obtain ⟨bb6, hb6⟩ : ∃ x, tst σ4 (isT [61]) = x := ⟨_, rfl⟩
    rw [hb6] at J
    have HBT := Lib.hid hb6; clear hb6
    cases bb6
    ·
      rw [if_neg (by decide)] at J
      go_wp2_with fail
      refine J.out.mono ?_
      rintro e w6 ⟨rfl, hd, o4⟩
      have HJ6 := Lib.hid (HJ5.out.no HBT.out)
      have HD6 := Lib.hid hd
      clear HJ5 hd HBT J
      have hy6 := (o4.block Y (Array.getElem?_eq_some_iff.1 HY5.out).1 (by omega)).trans HY5.out
      have HY6 := Lib.hid hy6
      have HC4_6 := Lib.hid (HC4_5.out.trans' o4 (fun q hq e => by have e : q = b := e; show q ≤ Y; omega))
      have HO6 := Lib.hid (HO5.out.trans' o4 (fun q hq e => by exact e))
      clear hy6
      clear o4
      clear HO5 HD5 HY5 HC4_5
      obtain ⟨hdn, hxs⟩ := HJ6.out.done
      have o4 := HC4_6.out
      have hvc : ∀ x q, total = .ok x q → CellsAt w6 (fun q => Y < q ∧ q < w6.heap.size) (inC x) [.string ⟨s1.toArray⟩, .slice none 0 0, .string ⟨st.toArray⟩, .slice at1 lt1 et1, .bool bt1, .bool false, .int .u8 0, .int .i64 0, .string ⟨#[]⟩, .slice none 0 0, .slice none 0 0] := fun x q e => by
        obtain ⟨⟨⟨⟨u, n1⟩, u2⟩, t1⟩, rfl, ⟨⟨⟨-, k1⟩, -⟩, k3⟩⟩ := hxs x q e
        subst k1
        exact CellsAt.lit rfl (CellsAt.cons (CellAt.nilRow _ _ _) (CellsAt.app (CellsAt.weaken (G' := fun q => Y < q ∧ q < w6.heap.size) (fun q hq h => ⟨h, hq⟩) _ _ (CellsAt.only o4 (fun k hk e => by have hk : Y < k := hk; have e : k ≤ Y := e; omega) _ _ k3)) (CellsAt.lit rfl (leafC 0 0 []))))
      have hdz : Rf w6 b all total.unit := by rw [← hdn]; exact HD6.out
      obtain ⟨row, hrow, hrx⟩ := elem_row (P := total) (enc := inC) (ys := [.string ⟨s1.toArray⟩, .slice none 0 0, .string ⟨st.toArray⟩, .slice at1 lt1 et1, .bool bt1, .bool false, .int .u8 0, .int .i64 0, .string ⟨#[]⟩, .slice none 0 0, .slice none 0 0]) hvc (by intro u hu; simp at hu; rcases hu with rfl | rfl | rfl | rfl | rfl | rfl | rfl | rfl | rfl | rfl | rfl <;> rfl)
      have HDZ := Lib.hid hdz; have HROW := Lib.hid hrow; have HRX := Lib.hid hrx
      clear hdn hxs hvc hdz hrow hrx HD6 HJ6 o4
      obtain ⟨G, hG⟩ : ∃ G, w6.heap.size = G := ⟨_, rfl⟩
      obtain ⟨wA, hwa⟩ : ∃ x, w6.alloc (.cells #[.string ⟨s1.toArray⟩, .slice none 0 0, .string ⟨st.toArray⟩, .slice at1 lt1 et1, .bool bt1, .bool false, .int .u8 0, .int .i64 0, .string ⟨#[]⟩, .slice none 0 0, .slice none 0 0] 42) = x := ⟨_, rfl⟩
      have og : Only (fun _ => False) w6 wA := by rw [← hwa]; exact (Only.refl _ _).alloc _
      have hgg : wA.heap[G]? = some (.cells #[.string ⟨s1.toArray⟩, .slice none 0 0, .string ⟨st.toArray⟩, .slice at1 lt1 et1, .bool bt1, .bool false, .int .u8 0, .int .i64 0, .string ⟨#[]⟩, .slice none 0 0, .slice none 0 0] 42 (0, 0)) := by rw [← hwa, ← hG]; exact heap_new _ _
      have hgs : G + 1 = wA.heap.size := by rw [← hwa, World.size_alloc, hG]
      have hgw : wr.heap.size ≤ G := by have := HO6.out.size; omega
      have HOA := Lib.hid (HO6.out.trans' og (fun q _ e => e.elim))
      have hw0 : OwnRow wA w.heap.size 42 11 (.slice aL rs.length cL) rs := HOWN.out.only HOA.out (fun k h1 h2 e => by have e : k = b := e; have := HLO.out; omega)
      have HRA := Lib.hid (show CellsAt wA (fun q => w.heap.size ≤ q ∧ (Value.slice aL rs.length cL).ownBlock ≠ some q ∧ q < wA.heap.size) row [.string ⟨s1.toArray⟩, .slice none 0 0, .string ⟨st.toArray⟩, .slice at1 lt1 et1, .bool bt1, .bool false, .int .u8 0, .int .i64 0, .string ⟨#[]⟩, .slice none 0 0, .slice none 0 0] from CellsAt.weaken (fun q hq h => by have h1 : Y < q := h.1; have := HWY.out; have := HLW.out; exact ⟨by omega, fun e => by have := (HFL.out q e).2; omega, hq⟩) _ _ (CellsAt.only og (fun _ _ h => h) _ _ HROW.out))
      have HDA := Lib.hid (HDZ.out.still og)
      obtain ⟨xs, p1', p2'⟩ := hw0
      have hys : ∀ j u, ([.string ⟨s1.toArray⟩, .slice none 0 0, .string ⟨st.toArray⟩, .slice at1 lt1 et1, .bool bt1, .bool false, .int .u8 0, .int .i64 0, .string ⟨#[]⟩, .slice none 0 0, .slice none 0 0] : List Value)[j]? = some u → wA.cell? ((⟨G, 0, none⟩ : Addr).add j) = some u := fun j u hu => by rw [addr_add]; exact range_of_block (cs := [.string ⟨s1.toArray⟩, .slice none 0 0, .string ⟨st.toArray⟩, .slice at1 lt1 et1, .bool bt1, .bool false, .int .u8 0, .int .i64 0, .string ⟨#[]⟩, .slice none 0 0, .slice none 0 0]) hgg j u hu
      have hone : ∀ u ∈ ([.string ⟨s1.toArray⟩, .slice none 0 0, .string ⟨st.toArray⟩, .slice at1 lt1 et1, .bool bt1, .bool false, .int .u8 0, .int .i64 0, .string ⟨#[]⟩, .slice none 0 0, .slice none 0 0] : List Value), u.oneCell' = true := by intro u hu; simp at hu; rcases hu with rfl | rfl | rfl | rfl | rfl | rfl | rfl | rfl | rfl | rfl | rfl <;> rfl
      have HYS := Lib.hid hys; have HONE := Lib.hid hone; have HP1 := Lib.hid p1'; have HP2 := Lib.hid p2'; have HG := Lib.hid hG; have HWA := Lib.hid hwa; have HGS := Lib.hid hgs; have HGW := Lib.hid hgw
      clear hys hone p1' p2' hG hwa hgs hgg og hgw
      obtain ⟨y0, y1, y2, y3, y4, y5, y6, y7, y8, y9, y10, yz⟩ := boxN11 HY6.out
      go_wp2_with ((rw [HG.out, HWA.out]; refine wpList_append_own2 (o := ⟨some 39, _, _, _, _, _⟩) rfl (.tmp 36) (.tmp 38) 31 42 (by rfl) Tryz.underlying31 infoFdF rfl (by decide) w.heap.size (.slice aL rs.length cL) rs.length 1 1 xs [.string ⟨s1.toArray⟩, .slice none 0 0, .string ⟨st.toArray⟩, .slice at1 lt1 et1, .bool bt1, .bool false, .int .u8 0, .int .i64 0, .string ⟨#[]⟩, .slice none 0 0, .slice none 0 0] ⟨G, 0, none⟩ (by rfl) (by rfl) HP1.out (by rfl) HYS.out HONE.out (by have := HFEW.out; unfold maxLen; omega) (by have := HFEW.out; omega) (by have := HGS.out; have := HGW.out; have := HLW.out; omega) ?_; intro v' wZ q1 q2 q3; obtain ⟨aL', cL', eL', gL1, gL2, -⟩ := own_form q1; subst eL'; clear y0 y1 y2 y3 y4 y5 y6 y7 y8 y9 y10 yz))
      have hF := HFL.out
      have hrow2 := OwnRow.append HP1.out HP2.out rfl HRA.out q1 q2 q3
      have hdd := HDA.out.only q2 (fun k hk h => by have := (hF k h).1; have := HLO.out; omega)
      have hoo : Only (fun k => k = b) w wZ := (HOr.out.trans HOA.out).trans' q2 (fun q hq h => by have := (hF q h).1; have := HWLO.out; omega)
      have hlss := HLS.out.next (K' := fun acc => rs ++ [row] = acc.map inC) HTK.out HDr.out.few.2 HCL.out (fun acc x q h1 h2 => by rw [h1, HRX.out x q (HTOT.out.symm.trans h2), List.map_append]; rfl)
      rw [HTOT.out] at hlss
      have hmu : muF wZ b all < muF wr b all := by
        rw [muF_ok HDr.out]
        cases hq : total with
        | bad p q => rw [hq] at hdd; rw [muF_bad hdd]; omega
        | ok x r2 => rw [hq] at hdd; rw [muF_ok (u := ()) hdd]; have := HTK.out _ _ _ (HTOT.out.trans hq); omega
      have hnew : LI inP c inC 11 42 tl w b all w.heap.size (.slice aL' (rs.length + 1) cL') false wZ := ⟨total.unit, rs ++ [row], hdd, hrow2, hoo, by rw [List.length_append, List.length_singleton]; exact hlss⟩
      have HNEW := Lib.hid hnew; have HMU := Lib.hid hmu
      clear hnew hmu hlss hoo hdd hrow2 q1 q2 q3 gL1 gL2 hF HOA HRA HDA HDZ HO6 HY6
      go_wp2_with fail
      go_roundw
      case rel => first | exact ⟨false, rfl, HNEW⟩ | ((repeat apply Exists.intro); refine ⟨?_, rfl⟩; exact ⟨false, rfl, HNEW⟩)
      case measure => exact HMU.out
    ·
      rw [if_pos rfl] at J
      go_wp2_with fail
      refine J.out.mono ?_
      rintro e w6 ⟨rfl, hd, o4⟩
      have HJ6 := Lib.hid (Jn.adv (F := fun (p : ((Unit × List UInt8) × Unit) × TR) r => (valueP true 24 r).bind fun v r4 => .ok (IN.mk p.1.1.2 p.2 true v) r4) (HJ5.out.yes HBT.out))
      obtain ⟨σ6, hσ⟩ : ∃ z, adv σ4 = z := ⟨_, rfl⟩
      rw [hσ] at hd HJ6
      clear hσ
      have HD6 := Lib.hid hd
      clear HJ5 hd HBT J
      have hy6 := (o4.block Y (Array.getElem?_eq_some_iff.1 HY5.out).1 (by omega)).trans HY5.out
      have HY6 := Lib.hid hy6
      have HC4_6 := Lib.hid (HC4_5.out.trans' o4 (fun q hq e => by have e : q = b := e; show q ≤ Y; omega))
      have HO6 := Lib.hid (HO5.out.trans' o4 (fun q hq e => by exact e))
      clear hy6
      clear o4
      clear HO5 HD5 HY5 HC4_5
      obtain ⟨y0, y1, y2, y3, y4, y5, y6, y7, y8, y9, y10, yz⟩ := boxN11 HY6.out
      go_upto_region 10 with (fail)
      clear y0 y1 y2 y3 y4 y5 y6 y7 y8 y9 y10 yz
      have hy7 := heap_set (o := 5) HY6.out (.bool true)
      have hy7 : (w6.setCell ⟨Y, 5, none⟩ (.bool true)).heap[Y]? = some (.cells #[.string ⟨s1.toArray⟩, .slice none 0 0, .string ⟨st.toArray⟩, .slice at1 lt1 et1, .bool bt1, .bool true, .int .u8 0, .int .i64 0, .string ⟨#[]⟩, .slice none 0 0, .slice none 0 0] 42 (0, 0)) := by simpa using hy7
      have os7 : Only (fun k => k = Y) w6 (w6.setCell ⟨Y, 5, none⟩ (.bool true)) := (Only.refl (fun k => k = Y) _).setCell (p := ⟨Y, 5, none⟩) (.inl rfl) _
      obtain ⟨w7, hw7⟩ : ∃ x, w6.setCell ⟨Y, 5, none⟩ (.bool true) = x := ⟨_, rfl⟩
      rw [hw7] at hy7 os7
      rw [hw7]
      clear hw7
      have HY7 := Lib.hid hy7; have HD7 := Lib.hid (HD6.out.only os7 (fun k hk e => by omega)); have HJ7 := HJ6
      have HC4_7 := Lib.hid (HC4_6.out.trans' os7 (fun q hq e => by have e : q = Y := e; show q ≤ Y; omega))
      have HO7 := Lib.hid (HO6.out.trans' os7 (fun q hq e => by have e : q = Y := e; have := HWY.out; omega))
      clear hy7 os7 HJ6
      clear HO6 HD6 HY6 HC4_6
      have J := Lib.hid (fValue_any 24 true b all σ6 w7 HAD.out HD7.out)
      go_wp2_with fail
      refine J.out.mono ?_
      rintro e w8 ⟨v, rfl, ⟨kd, nm, sv, a1, l1, p1, a2, l2, p2, rfl⟩, hd, hv, o4⟩
      have hsy : Y < w7.heap.size := (Array.getElem?_eq_some_iff.1 HY7.out).1
      have hv : ∀ x q, (σ6.bind fun _ => valueP true 24) = .ok x q → CellsAt w8 (fun q => Y < q) (valC x) [.int .u8 (kd : Int), .int .i64 nm, .string ⟨sv.toArray⟩, .slice a1 l1 p1, .slice a2 l2 p2] := fun x q e => CellsAt.weaken (fun q _ h => by have h : w7.heap.size ≤ q := h; show Y < q; omega) _ _ (aggF_cells (hv x q e))
      obtain ⟨σ8, hσ⟩ : ∃ z, (σ6.bind fun _ => valueP true 24).unit = z := ⟨_, rfl⟩
      rw [hσ] at hd
      have hj := Jn.call (fun x => CellsAt w8 (fun q => Y < q) (valC x) [.int .u8 (kd : Int), .int .i64 nm, .string ⟨sv.toArray⟩, .slice a1 l1 p1, .slice a2 l2 p2]) HJ7.out hσ.symm hv
      have HJ8 := Lib.hid hj; have HD8 := Lib.hid hd
      clear hj hd hv hσ HJ7 J hsy
      have hy8 := (o4.block Y (Array.getElem?_eq_some_iff.1 HY7.out).1 (by omega)).trans HY7.out
      have HY8 := Lib.hid hy8
      have HC4_8 := Lib.hid (HC4_7.out.trans' o4 (fun q hq e => by have e : q = b := e; show q ≤ Y; omega))
      have HO8 := Lib.hid (HO7.out.trans' o4 (fun q hq e => by exact e))
      clear hy8
      have HC8_8 := Lib.hid (Only.refl (fun k => k ≤ Y) w8)
      clear o4
      clear HO7 HD7 HY7 HC4_7
      go_upto_region 11 with ((refine wpList_store_part (o := ⟨none, _, _, _, _, _⟩) rfl 37 (.tmp 35) (.tmp 34) (by rfl) Y 6 42 [.string ⟨s1.toArray⟩, .slice none 0 0, .string ⟨st.toArray⟩, .slice at1 lt1 et1, .bool bt1, .bool true] [.int .u8 0, .int .i64 0, .string ⟨#[]⟩, .slice none 0 0, .slice none 0 0] [.int .u8 (kd : Int), .int .i64 nm, .string ⟨sv.toArray⟩, .slice a1 l1 p1, .slice a2 l2 p2] [] (by rfl) (by rfl) HY8.out (by rfl) (by rfl) (by kernel_rfl) (by intro u hu; simp at hu; rcases hu with rfl | rfl | rfl | rfl | rfl <;> rfl) ?_; intro w9 k1 k2))
      have hy9 : w9.heap[Y]? = some (.cells #[.string ⟨s1.toArray⟩, .slice none 0 0, .string ⟨st.toArray⟩, .slice at1 lt1 et1, .bool bt1, .bool true, .int .u8 (kd : Int), .int .i64 nm, .string ⟨sv.toArray⟩, .slice a1 l1 p1, .slice a2 l2 p2] 42 (0, 0)) := k1
      have HY9 := Lib.hid hy9
      have HD9 := Lib.hid (HD8.out.only k2 (fun k hk e => by omega)); have HJ9 := HJ8
      have HC4_9 := Lib.hid (HC4_8.out.trans' k2 (fun q hq e => by have e : q = Y := e; show q ≤ Y; omega))
      have HC8_9 := Lib.hid (HC8_8.out.trans' k2 (fun q hq e => by have e : q = Y := e; show q ≤ Y; omega))
      have HO9 := Lib.hid (HO8.out.trans' k2 (fun q hq e => by have e : q = Y := e; have := HWY.out; omega))
      clear hy9 k1 k2 HJ8
      clear HO8 HD8 HY8 HC4_8 HC8_8
      obtain ⟨hdn, hxs⟩ := HJ9.out.done
      have o4 := HC4_9.out
      have o8 := HC8_9.out
      have hvc : ∀ x q, total = .ok x q → CellsAt w9 (fun q => Y < q ∧ q < w9.heap.size) (inC x) [.string ⟨s1.toArray⟩, .slice none 0 0, .string ⟨st.toArray⟩, .slice at1 lt1 et1, .bool bt1, .bool true, .int .u8 (kd : Int), .int .i64 nm, .string ⟨sv.toArray⟩, .slice a1 l1 p1, .slice a2 l2 p2] := fun x q e => by
        obtain ⟨⟨⟨⟨⟨u, n1⟩, u2⟩, t1⟩, v1⟩, rfl, ⟨⟨⟨⟨-, k1⟩, -⟩, k3⟩, k4⟩⟩ := hxs x q e
        subst k1
        exact CellsAt.lit rfl (CellsAt.cons (CellAt.nilRow _ _ _) (CellsAt.app (CellsAt.weaken (G' := fun q => Y < q ∧ q < w9.heap.size) (fun q hq h => ⟨h, hq⟩) _ _ (CellsAt.only o4 (fun k hk e => by have hk : Y < k := hk; have e : k ≤ Y := e; omega) _ _ k3)) (CellsAt.lit rfl (CellsAt.weaken (G' := fun q => Y < q ∧ q < w9.heap.size) (fun q hq h => ⟨h, hq⟩) _ _ (CellsAt.only o8 (fun k hk e => by have hk : Y < k := hk; have e : k ≤ Y := e; omega) _ _ k4)))))
      have hdz : Rf w9 b all total.unit := by rw [← hdn]; exact HD9.out
      obtain ⟨row, hrow, hrx⟩ := elem_row (P := total) (enc := inC) (ys := [.string ⟨s1.toArray⟩, .slice none 0 0, .string ⟨st.toArray⟩, .slice at1 lt1 et1, .bool bt1, .bool true, .int .u8 (kd : Int), .int .i64 nm, .string ⟨sv.toArray⟩, .slice a1 l1 p1, .slice a2 l2 p2]) hvc (by intro u hu; simp at hu; rcases hu with rfl | rfl | rfl | rfl | rfl | rfl | rfl | rfl | rfl | rfl | rfl <;> rfl)
      have HDZ := Lib.hid hdz; have HROW := Lib.hid hrow; have HRX := Lib.hid hrx
      clear hdn hxs hvc hdz hrow hrx HD9 HJ9 o4 o8
      obtain ⟨G, hG⟩ : ∃ G, w9.heap.size = G := ⟨_, rfl⟩
      obtain ⟨wA, hwa⟩ : ∃ x, w9.alloc (.cells #[.string ⟨s1.toArray⟩, .slice none 0 0, .string ⟨st.toArray⟩, .slice at1 lt1 et1, .bool bt1, .bool true, .int .u8 (kd : Int), .int .i64 nm, .string ⟨sv.toArray⟩, .slice a1 l1 p1, .slice a2 l2 p2] 42) = x := ⟨_, rfl⟩
      have og : Only (fun _ => False) w9 wA := by rw [← hwa]; exact (Only.refl _ _).alloc _
      have hgg : wA.heap[G]? = some (.cells #[.string ⟨s1.toArray⟩, .slice none 0 0, .string ⟨st.toArray⟩, .slice at1 lt1 et1, .bool bt1, .bool true, .int .u8 (kd : Int), .int .i64 nm, .string ⟨sv.toArray⟩, .slice a1 l1 p1, .slice a2 l2 p2] 42 (0, 0)) := by rw [← hwa, ← hG]; exact heap_new _ _
      have hgs : G + 1 = wA.heap.size := by rw [← hwa, World.size_alloc, hG]
      have hgw : wr.heap.size ≤ G := by have := HO9.out.size; omega
      have HOA := Lib.hid (HO9.out.trans' og (fun q _ e => e.elim))
      have hw0 : OwnRow wA w.heap.size 42 11 (.slice aL rs.length cL) rs := HOWN.out.only HOA.out (fun k h1 h2 e => by have e : k = b := e; have := HLO.out; omega)
      have HRA := Lib.hid (show CellsAt wA (fun q => w.heap.size ≤ q ∧ (Value.slice aL rs.length cL).ownBlock ≠ some q ∧ q < wA.heap.size) row [.string ⟨s1.toArray⟩, .slice none 0 0, .string ⟨st.toArray⟩, .slice at1 lt1 et1, .bool bt1, .bool true, .int .u8 (kd : Int), .int .i64 nm, .string ⟨sv.toArray⟩, .slice a1 l1 p1, .slice a2 l2 p2] from CellsAt.weaken (fun q hq h => by have h1 : Y < q := h.1; have := HWY.out; have := HLW.out; exact ⟨by omega, fun e => by have := (HFL.out q e).2; omega, hq⟩) _ _ (CellsAt.only og (fun _ _ h => h) _ _ HROW.out))
      have HDA := Lib.hid (HDZ.out.still og)
      obtain ⟨xs, p1', p2'⟩ := hw0
      have hys : ∀ j u, ([.string ⟨s1.toArray⟩, .slice none 0 0, .string ⟨st.toArray⟩, .slice at1 lt1 et1, .bool bt1, .bool true, .int .u8 (kd : Int), .int .i64 nm, .string ⟨sv.toArray⟩, .slice a1 l1 p1, .slice a2 l2 p2] : List Value)[j]? = some u → wA.cell? ((⟨G, 0, none⟩ : Addr).add j) = some u := fun j u hu => by rw [addr_add]; exact range_of_block (cs := [.string ⟨s1.toArray⟩, .slice none 0 0, .string ⟨st.toArray⟩, .slice at1 lt1 et1, .bool bt1, .bool true, .int .u8 (kd : Int), .int .i64 nm, .string ⟨sv.toArray⟩, .slice a1 l1 p1, .slice a2 l2 p2]) hgg j u hu
      have hone : ∀ u ∈ ([.string ⟨s1.toArray⟩, .slice none 0 0, .string ⟨st.toArray⟩, .slice at1 lt1 et1, .bool bt1, .bool true, .int .u8 (kd : Int), .int .i64 nm, .string ⟨sv.toArray⟩, .slice a1 l1 p1, .slice a2 l2 p2] : List Value), u.oneCell' = true := by intro u hu; simp at hu; rcases hu with rfl | rfl | rfl | rfl | rfl | rfl | rfl | rfl | rfl | rfl | rfl <;> rfl
      have HYS := Lib.hid hys; have HONE := Lib.hid hone; have HP1 := Lib.hid p1'; have HP2 := Lib.hid p2'; have HG := Lib.hid hG; have HWA := Lib.hid hwa; have HGS := Lib.hid hgs; have HGW := Lib.hid hgw
      clear hys hone p1' p2' hG hwa hgs hgg og hgw
      obtain ⟨y0, y1, y2, y3, y4, y5, y6, y7, y8, y9, y10, yz⟩ := boxN11 HY9.out
      go_wp2_with ((rw [HG.out, HWA.out]; refine wpList_append_own2 (o := ⟨some 39, _, _, _, _, _⟩) rfl (.tmp 36) (.tmp 38) 31 42 (by rfl) Tryz.underlying31 infoFdF rfl (by decide) w.heap.size (.slice aL rs.length cL) rs.length 1 1 xs [.string ⟨s1.toArray⟩, .slice none 0 0, .string ⟨st.toArray⟩, .slice at1 lt1 et1, .bool bt1, .bool true, .int .u8 (kd : Int), .int .i64 nm, .string ⟨sv.toArray⟩, .slice a1 l1 p1, .slice a2 l2 p2] ⟨G, 0, none⟩ (by rfl) (by rfl) HP1.out (by rfl) HYS.out HONE.out (by have := HFEW.out; unfold maxLen; omega) (by have := HFEW.out; omega) (by have := HGS.out; have := HGW.out; have := HLW.out; omega) ?_; intro v' wZ q1 q2 q3; obtain ⟨aL', cL', eL', gL1, gL2, -⟩ := own_form q1; subst eL'; clear y0 y1 y2 y3 y4 y5 y6 y7 y8 y9 y10 yz))
      have hF := HFL.out
      have hrow2 := OwnRow.append HP1.out HP2.out rfl HRA.out q1 q2 q3
      have hdd := HDA.out.only q2 (fun k hk h => by have := (hF k h).1; have := HLO.out; omega)
      have hoo : Only (fun k => k = b) w wZ := (HOr.out.trans HOA.out).trans' q2 (fun q hq h => by have := (hF q h).1; have := HWLO.out; omega)
      have hlss := HLS.out.next (K' := fun acc => rs ++ [row] = acc.map inC) HTK.out HDr.out.few.2 HCL.out (fun acc x q h1 h2 => by rw [h1, HRX.out x q (HTOT.out.symm.trans h2), List.map_append]; rfl)
      rw [HTOT.out] at hlss
      have hmu : muF wZ b all < muF wr b all := by
        rw [muF_ok HDr.out]
        cases hq : total with
        | bad p q => rw [hq] at hdd; rw [muF_bad hdd]; omega
        | ok x r2 => rw [hq] at hdd; rw [muF_ok (u := ()) hdd]; have := HTK.out _ _ _ (HTOT.out.trans hq); omega
      have hnew : LI inP c inC 11 42 tl w b all w.heap.size (.slice aL' (rs.length + 1) cL') false wZ := ⟨total.unit, rs ++ [row], hdd, hrow2, hoo, by rw [List.length_append, List.length_singleton]; exact hlss⟩
      have HNEW := Lib.hid hnew; have HMU := Lib.hid hmu
      clear hnew hmu hlss hoo hdd hrow2 q1 q2 q3 gL1 gL2 hF HOA HRA HDA HDZ HO9 HY9
      go_wp2_with fail
      go_roundw
      case rel => first | exact ⟨false, rfl, HNEW⟩ | ((repeat apply Exists.intro); refine ⟨?_, rfl⟩; exact ⟨false, rfl, HNEW⟩)
      case measure => exact HMU.out
end Go.Proofs.YtgephneppgcnlaaGreatDoor
namespace Go.Proofs.YtgephneppgcnlaaGreatDoor
open Go Go.RowKit
set_option linter.unusedVariables false
set_option linter.unusedSimpArgs false

/-! ### Names with a sign between -/
def NMF (w : World) (b : Nat) (all : RL) (sg : List UInt8) (total : PR (List (List UInt8))) (v : Value) (wr : World) : Prop :=
  ∃ (σ : PR Unit) (n : Nat) (xs : List Value), Rf wr b all σ ∧ wr.ownsRow w.heap.size 9 1 v n xs ∧ n ≤ 1000001 ∧ 0 < n ∧ Only (fun k => k = b) w wr ∧ (match σ with
    | .ok _ r => n + r.length ≤ 1000001 ∧ ∃ acc : List (List UInt8), acc.length = n ∧ Chk wr (fun q => w.heap.size ≤ q ∧ v.ownBlock ≠ some q ∧ q < wr.heap.size) 1 (acc.map fun s => [strC s]) xs ∧ total = moreP sg (r.length + 1) acc r
    | .bad a e => total = .bad a e)
theorem own_oneF {w : World} {B G : Nat} {T : TypeId} {x : Value} (h : w.heap[G]? = some (.cells #[x] T (0, 0))) (hB : B ≤ G) : w.ownsRow B T 1 (.slice (some ⟨G, 0, none⟩) 1 1) 1 [x] := ⟨rfl, .inr ⟨G, 1, #[x], rfl, hB, h, Nat.le_refl _, by unfold maxLen; omega, rfl, rfl⟩⟩
set_option maxRecDepth 100000 in
set_option maxHeartbeats 40000000 in
theorem fnames_any (sg : List UInt8) (b : Nat) (all : RL) (σ0 : PR Unit) (w : World) (h : Rf w b all σ0) :
    Calls Tryz.prog 34 #[.pointer (some ⟨b, 0, none⟩), .string ⟨sg.toArray⟩] w (FAns w b all σ0 (rowP w.heap.size 1 (fun s => [strC s])) rowF (namesP sg)) := by
  have hbl := h.lt
  obtain ⟨total, htot⟩ : ∃ x, (σ0.bind fun _ => namesP sg) = x := ⟨_, rfl⟩
  obtain ⟨Q, hQ⟩ : ∃ Q, FAns w b all σ0 (rowP w.heap.size 1 (fun s => [strC s])) rowF (namesP sg) = Q := ⟨_, rfl⟩
  rw [hQ]
  have fo : ∀ w' (a : Option Addr) (l e : Nat) σ, Rf w' b all σ → σ = total.unit → (∀ x q, total = .ok x q → CellAt w' (fun q => w.heap.size ≤ q) (.row 1 (x.map fun s => [strC s])) (.slice a l e)) → Only (fun k => k = b) w w' → Q (.returned (.slice a l e)) w' := fun w' a l e σ h1 h2 h3 h4 => by
    rw [← hQ]; exact ⟨_, rfl, ⟨a, l, e, rfl⟩, by rw [htot, ← h2]; exact h1, fun x q e => h3 x q (by rw [← htot]; exact e), h4⟩
  have T := Lib.hid (fEat_any b all σ0 sg w h)
  unfold tookF at T
  -- what stands behind the first sign
  obtain ⟨σ1, hσ1⟩ : ∃ z, (if tst σ0 (isT sg) = true then adv σ0 else σ0) = z := ⟨_, rfl⟩
  have htot2 : total = σ1.bind fun _ r => (nameP r).bind fun s r1 => moreP sg (r1.length + 1) [s] r1 := by
    rw [← htot, ← hσ1]
    cases σ0 with
    | ok u r =>
      show namesP sg r = _
      unfold namesP
      show _ = (if isT sg r = true then PR.ok () r.tail else PR.ok () r).bind _
      by_cases hb : isT sg r = true
      · rw [if_pos hb, if_pos hb]; rfl
      · rw [if_neg hb, if_neg hb]; rfl
    | bad a c => rfl
  rw [hσ1] at T
  obtain ⟨bb, hbb⟩ : ∃ x, tst σ0 (isT sg) = x := ⟨_, rfl⟩
  rw [hbb] at T
  have FO := Lib.hid fo; have HT2 := Lib.hid htot2
  clear fo hQ htot htot2 h hσ1 hbb
  go_enter Tryz.func34, Tryz.ntmps34
  go_wp2_with fail
  refine T.out.mono ?_
  rintro e w1 ⟨rfl, h1, o1⟩
  have J := Lib.hid (fName_any b all σ1 w1 h1)
  have H1 := Lib.hid h1; have O1 := Lib.hid o1
  clear h1 o1 T
  go_wp2_with fail
  refine J.out.mono ?_
  rintro e w2 ⟨v, rfl, ⟨s1, rfl⟩, hd2, hv, o2⟩
  have hg := heap_new w2 (.cells #[.string ⟨s1.toArray⟩] 9)
  have on := (Only.refl (fun _ => False) w2).alloc (.cells #[.string ⟨s1.toArray⟩] 9)
  obtain ⟨w3, hw3⟩ : ∃ x, w2.alloc (.cells #[.string ⟨s1.toArray⟩] 9) = x := ⟨_, rfl⟩
  obtain ⟨G, hG⟩ : ∃ G, w2.heap.size = G := ⟨_, rfl⟩
  rw [hw3] at hg on
  rw [hG] at hg
  have hGB : w.heap.size ≤ G := by have := O1.out.size; have := o2.size; omega
  have hi : NMF w b all sg total (.slice (some ⟨G, 0, none⟩) 1 1) w3 := by
    refine ⟨_, 1, _, hd2.still on, own_oneF hg hGB, by omega, by omega, (O1.out.trans o2).trans' on (fun _ _ h => h.elim), ?_⟩
    have h1 := H1.out
    have ht := HT2.out
    cases σ1 with
    | ok u r =>
      have hfew := h1.few
      have ht : total = (nameP r).bind fun s r1 => moreP sg (r1.length + 1) [s] r1 := ht
      show match (nameP r).unit with | .ok _ r => _ | .bad a e => _
      cases hq : nameP r with
      | ok s q =>
        have hs : s1 = s := strF_inj (hv s q hq)
        subst hs
        have hl := nameP_len hq
        rw [hq] at ht
        refine ⟨by omega, [s1], rfl, ?_, ht⟩
        exact ⟨[.string ⟨s1.toArray⟩], [], rfl, rfl, CellsAt.lit rfl (CellsAt.nil _ _), rfl⟩
      | bad a c => rw [hq] at ht; exact ht
    | bad a c => exact ht
  have HI := Lib.hid hi; have HG := Lib.hid hG; have HW3 := Lib.hid hw3
  clear hi hg on hw3 hG hGB hd2 hv o2 HT2 H1 O1 J
  go_wp2_with fail
  rw [HG.out, HW3.out]
  clear HG HW3
  go_loopw [5] (fun v5 wr => Hid (NMF w b all sg total v5 wr)) (fun _ wr => muF wr b all)
  case atStart => exact HI
  case round =>
    obtain ⟨σ, n, xs, hsd, hown, hn, hn0, hon, hsm⟩ := hrel.out
    obtain ⟨aL, cL, eL, fL1, fL2, fL3⟩ := own_form hown
    subst eL
    have hbz := hbl
    have T := Lib.hid (fEat_any b all σ sg wr hsd)
    unfold tookF at T
    obtain ⟨bb, hbb⟩ : ∃ x, tst σ (isT sg) = x := ⟨_, rfl⟩
    rw [hbb] at T
    have HOW := Lib.hid hown; have HON := Lib.hid hon; have HSD := Lib.hid hsd; have HSM := Lib.hid hsm; have HFL := Lib.hid fL3; have HN := Lib.hid hn; have HBB := Lib.hid hbb
    clear hown hon hsd hrel HI fL3 hn hsm hbb fL2
    cases bb with
    | false =>
      rw [if_neg (by decide)] at T
      go_wp2_with fail
      refine T.out.mono ?_
      rintro e w4 ⟨rfl, hd4, o4⟩
      have hend : Q (.returned (.slice aL n cL)) w4 := by
        have hbb := HBB.out
        have hsm := HSM.out
        refine FO.out _ _ _ _ σ hd4 ?_ (fun x q ht => ?_) (HON.out.trans o4)
        · cases σ with
          | ok u r =>
            obtain ⟨-, acc, -, -, h3⟩ := hsm
            have hbb : isT sg r = false := hbb
            rw [h3, moreP, if_neg (by rw [hbb]; decide)]; rfl
          | bad a d => have hsm : total = .bad a d := hsm; rw [hsm]; rfl
        · cases σ with
          | ok u r =>
            obtain ⟨-, acc, h1, h2, h3⟩ := hsm
            have hbb : isT sg r = false := hbb
            rw [h3, moreP, if_neg (by rw [hbb]; decide)] at ht; injection ht with ht _; subst ht
            have hrow : OwnRow w4 w.heap.size 9 1 (.slice aL n cL) (acc.map fun s => [strC s]) := OwnRow.only (w := wr) ⟨xs, by rw [List.length_map, h1]; exact HOW.out, h2⟩ o4 (fun k h1 h2 e => by have e : k = b := e; omega)
            exact CellAt.weaken (fun q _ h => h) _ _ hrow.cell |> fun h => by have := h; simpa [h1] using this
          | bad a d => have hsm : total = .bad a d := hsm; rw [hsm] at ht; cases ht
      have HEND := Lib.hid hend
      clear hend hd4 o4 HSM HBB HOW
      go_wp2_with fail
      first
        | exact HEND.out
        | (go_ret; exact HEND.out)
    | true =>
      rw [if_pos rfl] at T
      obtain ⟨r, hr⟩ : ∃ r, σ = .ok () r := by
        have := HBB.out
        cases σ with
        | ok u r => exact ⟨r, rfl⟩
        | bad a c => cases this
      subst hr
      have hbr : isT sg r = true := HBB.out
      have hmu := muF_ok HSD.out
      obtain ⟨hfew, acc, hacc, hchk, htot⟩ := HSM.out
      rw [moreP, if_pos hbr] at htot
      have htl := isT_len hbr
      have HMU := Lib.hid hmu; have HFEW := Lib.hid hfew; have HACC := Lib.hid hacc; have HCHK := Lib.hid hchk; have HTOT := Lib.hid htot; have HTL := Lib.hid htl
      have HGL := Lib.hid HON.out.size
      clear hmu hfew hacc hchk htot HSM HSD HBB hbr htl
      go_wp2_with fail
      refine T.out.mono ?_
      rintro e w4 ⟨rfl, hd4, o4⟩
      have hd4 : Rf w4 b all (.ok () r.tail) := hd4
      have J := Lib.hid (fName_any b all _ w4 hd4)
      have O4 := Lib.hid o4; clear o4 hd4 T
      go_wp2_with fail
      refine J.out.mono ?_
      rintro ee w2 ⟨v, rfl, ⟨s0, rfl⟩, hd2, hv, o2'⟩
      have o2 := O4.out.trans o2'
      have hg := heap_new w2 (.cells #[.string ⟨s0.toArray⟩] 9)
      have hg2 : w2.heap.size = (w2.alloc (.cells #[.string ⟨s0.toArray⟩] 9)).heap.size - 1 := by simp
      have on := (Only.refl (fun _ => False) w2).alloc (.cells #[.string ⟨s0.toArray⟩] 9)
      have hs2 : wr.heap.size ≤ w2.heap.size := o2.size
      have p1 := own_only' (own_only' HOW.out o2 (fun k hk e => by have := (HFL.out k hk).1; have := HGL.out; omega)) on (fun _ _ h => h)
      have p2 := (HCHK.out.only o2 (fun k hk e => by have := hk.1; have := HGL.out; omega)).only on (fun _ _ h => h)
      have hd3 := hd2.still on
      have ho3 := (HON.out.trans o2).trans' on (fun _ _ h => h.elim)
      have hv3 : ∀ x q, nameP r.tail = .ok x q → s0 = x := fun x q e => strF_inj (hv x q e)
      obtain ⟨G, hG⟩ : ∃ G, w2.heap.size = G := ⟨_, rfl⟩
      rw [hG] at hg hs2 hg2
      obtain ⟨w3, hw3⟩ : ∃ w3, w2.alloc (.cells #[.string ⟨s0.toArray⟩] 9) = w3 := ⟨_, rfl⟩
      rw [hw3] at hg on p1 p2 hd3 ho3 hg2
      have hys : ∀ j u, ([.string ⟨s0.toArray⟩] : List Value)[j]? = some u → w3.cell? ((⟨G, 0, none⟩ : Addr).add j) = some u := fun j u hu => by rw [addr_add]; exact range_of_block hg j u hu
      have hone : ∀ u ∈ ([.string ⟨s0.toArray⟩] : List Value), u.oneCell' = true := by intro u hu; simp at hu; rcases hu with rfl; rfl
      have HP1 := Lib.hid p1; have HP2 := Lib.hid p2; have HYS := Lib.hid hys; have HONE := Lib.hid hone; have HV3 := Lib.hid hv3; have HD3 := Lib.hid hd3; have HO3 := Lib.hid ho3; have HG := Lib.hid hG; have HW3 := Lib.hid hw3; have HS2 := Lib.hid hs2; have HG2 := Lib.hid hg2
      clear p1 p2 hys hone hv3 hd3 ho3 hG hw3 hs2 hg2 hg on hv hd2 o2 o2' J HOW HCHK O4
      go_wp2_with ((rw [HG.out, HW3.out]; refine wpList_append_own2 (o := ⟨some 19, _, _, _, _, _⟩) rfl (.tmp 15) (.tmp 18) 32 9 (by rfl) Tryz.underlying32 infoStrF rfl (by decide) w.heap.size (.slice aL n cL) n 1 1 xs [.string ⟨s0.toArray⟩] ⟨G, 0, none⟩ (by rfl) (by rfl) HP1.out (by rfl) HYS.out HONE.out (by have := HN.out; unfold maxLen; omega) (by have := HN.out; omega) (by have := HG2.out; have := HS2.out; have := HGL.out; omega) ?_; intro v' w9 q1 q2 q3))
      have hfl2 := HFL.out
      obtain ⟨aL', cL', eL', gL1, gL2, gL3⟩ := own_form q1
      subst eL'
      have hqo : Only (fun k => k = b) w w9 := HO3.out.trans' q2 (fun q hq h => by have := (hfl2 q h).1; omega)
      have hd9 := HD3.out.only q2 (fun k hk h => by have := (hfl2 k h).1; omega)
      have hi : NMF w b all sg total (.slice aL' (n + 1) cL') w9 ∧ muF w9 b all < muF wr b all := by
        have htot := HTOT.out
        have hmu := HMU.out
        have hfew := HFEW.out
        have htl := HTL.out
        have hchk9 : ∀ x q, nameP r.tail = .ok x q → Chk w9 (fun q => w.heap.size ≤ q ∧ (Value.slice aL' (n + 1) cL').ownBlock ≠ some q ∧ q < w9.heap.size) 1 ((acc ++ [x]).map fun s => [strC s]) (xs ++ [.string ⟨s0.toArray⟩]) := fun x q e => by
          have hx : CellsAt w3 (fun q => w.heap.size ≤ q ∧ (Value.slice aL n cL).ownBlock ≠ some q ∧ q < wr.heap.size) [strC x] [.string ⟨s0.toArray⟩] := by rw [HV3.out x q e]; exact CellsAt.lit rfl (CellsAt.nil _ _)
          have := ((Chk.snoc rfl hx HP2.out).only q2 (fun k hk => hk.2.1)).weaken (G' := fun q => w.heap.size ≤ q ∧ (Value.slice aL' (n + 1) cL').ownBlock ≠ some q ∧ q < w9.heap.size) (fun q hq h => ⟨h.1, fun e2 => by
            rcases q3 q e2 with h2 | h2
            · exact h.2.1 h2
            · have := h.2.2; have := HG2.out; have := HS2.out; omega, hq⟩)
          rw [List.map_append, List.map_singleton]; exact this
        cases hq : nameP r.tail with
        | bad a d =>
          have hσ : ((PR.ok () r.tail : PR Unit).bind fun _ => nameP).unit = .bad a d := by show (nameP r.tail).unit = _; rw [hq]; rfl
          rw [hσ] at hd9
          rw [hq] at htot
          refine ⟨⟨.bad a d, n + 1, _, hd9, q1, by omega, by omega, hqo, htot⟩, ?_⟩
          rw [hmu, muF_bad hd9]; omega
        | ok x r2 =>
          have hσ : ((PR.ok () r.tail : PR Unit).bind fun _ => nameP).unit = .ok () r2 := by show (nameP r.tail).unit = _; rw [hq]; rfl
          rw [hσ] at hd9
          have hl := nameP_len hq
          rw [hq] at htot
          have htot : total = moreP sg r.length (acc ++ [x]) r2 := htot
          refine ⟨⟨.ok () r2, n + 1, _, hd9, q1, by omega, by omega, hqo, ⟨by omega, acc ++ [x], by rw [List.length_append, List.length_singleton, HACC.out], hchk9 x r2 hq, by rw [htot]; exact moreP_fuel sg _ _ _ _ (by omega) (by omega)⟩⟩, ?_⟩
          rw [hmu, muF_ok hd9]; omega
      have HI2 := Lib.hid hi.1; have HLT := Lib.hid hi.2
      clear hi hd9 hqo q1 q2 q3 gL1 gL2 gL3 hfl2 HP1 HP2 HYS HONE HV3 HFL HD3 HO3 HTOT
      go_wp2_with fail
      go_roundw
      case rel => first | exact HI2 | ((repeat apply Exists.intro); exact HI2)
      case measure => exact HLT.out
end Go.Proofs.YtgephneppgcnlaaGreatDoor
namespace Go.Proofs.YtgephneppgcnlaaGreatDoor
open Go Go.RowKit
set_option linter.unusedVariables false
set_option linter.unusedSimpArgs false

def tdF (v : Value) : Prop := ∃ (k : Nat) (s0 : List UInt8) (a0 : Option Addr) (l0 e0 : Nat) (a1 : Option Addr) (l1 e1 : Nat), v = .agg #[.int .u8 (k : Int), .string ⟨s0.toArray⟩, .slice a0 l0 e0, .slice a1 l1 e1]
theorem isT_word {w : World} {b : Nat} {all : RL} {r : List Tok} (h : Rf w b all (.ok () r)) (c : UInt8) (l : List UInt8) (hc : letB c = true) {x : Bool} (hx : isT (c :: l) r = x) : tst (.ok () r : PR Unit) (isW (c :: l)) = x := by
  rw [← h.word c l hc]; exact hx
theorem isT_kind {s : List UInt8} {r : List Tok} (h : isT s r = true) : isK 0 r = false := by
  cases r with
  | nil => rfl
  | cons t r' =>
    refine decide_eq_false (fun h0 => ?_)
    have hb : (decide (t.kind = 4) && decide (t.text = s) || decide (t.kind = 1) && decide (t.text = s)) = true := h
    rw [h0] at hb; simp at hb
theorem ofF_cells (l : List IN) : l.map inC = (l.map FD.of).map fdC := by rw [List.map_map]; rfl
set_option maxRecDepth 100000 in
set_option maxHeartbeats 8000000 in
theorem fone_4 (b : Nat) (all : RL) (hdp : all.dp = 0) (r : List Tok) (hf : ∀ i, i < 4 → isT (wordK i) r = false) (hy : isT (wordK 4) r = true) (w : World) (h : Rf w b all (.ok () r)) :
    Calls Tryz.prog 12 #[.pointer (some ⟨b, 0, none⟩)] w (FAns w b all (.ok () r) (fun w' x v => aggP w.heap.size tdC w' x v) tdF tdP) := by
  have hbl := h.lt
  obtain ⟨B, hB⟩ : ∃ B, w.heap.size = B := ⟨_, rfl⟩
  have hbB : b < B := by omega
  obtain ⟨σ0, hs0⟩ : ∃ σ : PR Unit, PR.ok () r.tail = σ := ⟨_, rfl⟩
  obtain ⟨total, htot⟩ : ∃ x, tdP r = x := ⟨_, rfl⟩
  have hj := Jn.start σ0 td5
  rw [← hs0, show ((PR.ok () r.tail : PR Unit).bind fun _ => td5) = total from by rw [← htot, td_yes (j := 4) (by omega) hf hy]; rfl, hs0] at hj
  have HP : ∀ w' v, tdF v → Rf w' b all total.unit → (∀ x q, total = .ok x q → aggP B tdC w' x v) → Only (fun k => k = b) w w' → FAns w b all (.ok () r) (fun w' x v => aggP w.heap.size tdC w' x v) tdF tdP (.returned v) w' := fun w' v q1 q2 q3 q4 => ⟨v, rfl, q1, by rw [show ((PR.ok () r : PR Unit).bind fun _ => tdP) = total from htot]; exact q2, fun x q e => by rw [hB]; exact q3 x q (by rw [← htot]; exact e), q4⟩
  obtain ⟨w0, hw0⟩ : ∃ w0, w.alloc (.cells #[.int .u8 0, .string ⟨#[]⟩, .slice none 0 0, .slice none 0 0] 34) = w0 := ⟨_, rfl⟩
  have hr0 : w0.heap[B]? = some (.cells #[.int .u8 0, .string ⟨#[]⟩, .slice none 0 0, .slice none 0 0] 34 (0, 0)) := by rw [← hw0, ← hB]; exact heap_new _ _
  have ho0 : Only (fun k => k = b) w w0 := by rw [← hw0]; exact (Only.refl _ w).alloc _
  have h0 : Rf w0 b all (.ok () r) := by rw [← hw0]; exact h.still ((Only.refl (fun _ => False) w).alloc _)
  have HPP := Lib.hid HP; have HJ0 := Lib.hid hj; have HR0 := Lib.hid hr0; have HD0 := Lib.hid h0; have HO0 := Lib.hid ho0; have HW0 := Lib.hid hw0; have HBB := Lib.hid hB; have HWB := Lib.hid (show w.heap.size ≤ B by omega)
  have hk0 : isK 0 r = false := isT_kind hy
  have HDZ := Lib.hid hdp; have HF := Lib.hid hf; have HY_ := Lib.hid hy; have HK0 := Lib.hid hk0; have HS0 := Lib.hid hs0
  clear HP hj hr0 h0 ho0 hw0 htot h hf hy hdp hs0 hk0
  generalize (FAns w b all (.ok () r) (fun w' x v => aggP w.heap.size tdC w' x v) tdF tdP) = Q at *
  clear hB hbl
  go_enter Tryz.func12, Tryz.ntmps12
  go_upto_region 1 with (fail)
  rw [HBB.out, HW0.out]
  clear HW0 HBB
  have hsz1 : B < w0.heap.size := (Array.getElem?_eq_some_iff.1 HR0.out).1
  obtain ⟨Y, hY⟩ : ∃ Y, w0.heap.size = Y := ⟨_, rfl⟩
  obtain ⟨w1, hw1⟩ : ∃ x, w0.alloc (.cells #[.int .u8 0, .string ⟨#[]⟩, .slice none 0 0, .slice none 0 0] 34) = x := ⟨_, rfl⟩
  have hy1 : w1.heap[Y]? = some (.cells #[.int .u8 0, .string ⟨#[]⟩, .slice none 0 0, .slice none 0 0] 34 (0, 0)) := by rw [← hw1, ← hY]; exact heap_new _ _
  have hr1 : w1.heap[B]? = some (.cells #[.int .u8 0, .string ⟨#[]⟩, .slice none 0 0, .slice none 0 0] 34 (0, 0)) := by rw [← hw1]; exact heap_old HR0.out _
  have oa1 : Only (fun _ => False) w0 w1 := by rw [← hw1]; exact (Only.refl _ _).alloc _
  rw [hY] at hsz1
  have HY1 := Lib.hid hy1; have HR1 := Lib.hid hr1; have HD1 := Lib.hid (HD0.out.still oa1); have HO1 := Lib.hid (HO0.out.trans' oa1 (fun q _ e => e.elim)); have HW1 := Lib.hid hw1; have HYY := Lib.hid hY; have HJ1 := HJ0
  clear hy1 hr1 hw1 hY oa1 HR0 HD0 HO0 HJ0
  go_upto_region 4 with (fail)
  rw [HYY.out, HW1.out]
  clear HYY HW1
  have J := Lib.hid (fWord_any b all (.ok () r) [116, 121, 112, 101] w1 HD1.out)
  rw [isT_word HD1.out 116 [121, 112, 101] (by decide) (x := false) (HF.out 0 (by omega))] at J
  go_wp2_with fail
  refine J.out.mono ?_
  rintro e w2 ⟨rfl, o4⟩
  have HD2 := Lib.hid (HD1.out.still o4); have HJ2 := HJ1
  clear J HJ1
  have hr2 := (o4.block B (Array.getElem?_eq_some_iff.1 HR1.out).1 (fun h => h)).trans HR1.out
  have HR2 := Lib.hid hr2
  have hy2 := (o4.block Y (Array.getElem?_eq_some_iff.1 HY1.out).1 (fun h => h)).trans HY1.out
  have HY2 := Lib.hid hy2
  have HO2 := Lib.hid (HO1.out.trans' o4 (fun q hq e => by exact e.elim))
  clear hr2 hy2
  clear o4
  clear HR1 HO1 HD1 HY1
  have J := Lib.hid (fWord_any b all (.ok () r) [105, 110, 116, 101, 114, 102, 97, 99, 101] w2 HD2.out)
  rw [isT_word HD2.out 105 [110, 116, 101, 114, 102, 97, 99, 101] (by decide) (x := false) (HF.out 1 (by omega))] at J
  go_wp2_with fail
  refine J.out.mono ?_
  rintro e w3 ⟨rfl, o4⟩
  have HD3 := Lib.hid (HD2.out.still o4); have HJ3 := HJ2
  clear J HJ2
  have hr3 := (o4.block B (Array.getElem?_eq_some_iff.1 HR2.out).1 (fun h => h)).trans HR2.out
  have HR3 := Lib.hid hr3
  have hy3 := (o4.block Y (Array.getElem?_eq_some_iff.1 HY2.out).1 (fun h => h)).trans HY2.out
  have HY3 := Lib.hid hy3
  have HO3 := Lib.hid (HO2.out.trans' o4 (fun q hq e => by exact e.elim))
  clear hr3 hy3
  clear o4
  clear HR2 HO2 HD2 HY2
  have J := Lib.hid (fWord_any b all (.ok () r) [117, 110, 105, 111, 110] w3 HD3.out)
  rw [isT_word HD3.out 117 [110, 105, 111, 110] (by decide) (x := false) (HF.out 2 (by omega))] at J
  go_wp2_with fail
  refine J.out.mono ?_
  rintro e w4 ⟨rfl, o4⟩
  have HD4 := Lib.hid (HD3.out.still o4); have HJ4 := HJ3
  clear J HJ3
  have hr4 := (o4.block B (Array.getElem?_eq_some_iff.1 HR3.out).1 (fun h => h)).trans HR3.out
  have HR4 := Lib.hid hr4
  have hy4 := (o4.block Y (Array.getElem?_eq_some_iff.1 HY3.out).1 (fun h => h)).trans HY3.out
  have HY4 := Lib.hid hy4
  have HO4 := Lib.hid (HO3.out.trans' o4 (fun q hq e => by exact e.elim))
  clear hr4 hy4
  clear o4
  clear HR3 HO3 HD3 HY3
  have J := Lib.hid (fWord_any b all (.ok () r) [101, 110, 117, 109] w4 HD4.out)
  rw [isT_word HD4.out 101 [110, 117, 109] (by decide) (x := false) (HF.out 3 (by omega))] at J
  go_wp2_with fail
  refine J.out.mono ?_
  rintro e w5 ⟨rfl, o4⟩
  have HD5 := Lib.hid (HD4.out.still o4); have HJ5 := HJ4
  clear J HJ4
  have hr5 := (o4.block B (Array.getElem?_eq_some_iff.1 HR4.out).1 (fun h => h)).trans HR4.out
  have HR5 := Lib.hid hr5
  have hy5 := (o4.block Y (Array.getElem?_eq_some_iff.1 HY4.out).1 (fun h => h)).trans HY4.out
  have HY5 := Lib.hid hy5
  have HO5 := Lib.hid (HO4.out.trans' o4 (fun q hq e => by exact e.elim))
  clear hr5 hy5
  clear o4
  clear HR4 HO4 HD4 HY4
  have J := Lib.hid (fWord_any b all (.ok () r) [105, 110, 112, 117, 116] w5 HD5.out)
  rw [isT_word HD5.out 105 [110, 112, 117, 116] (by decide) (x := true) (HY_.out)] at J
  go_wp2_with fail
  refine J.out.mono ?_
  rintro e w6 ⟨rfl, o4⟩
  have HD6 := Lib.hid (HD5.out.still o4); have HJ6 := HJ5
  clear J HJ5
  have hr6 := (o4.block B (Array.getElem?_eq_some_iff.1 HR5.out).1 (fun h => h)).trans HR5.out
  have HR6 := Lib.hid hr6
  have hy6 := (o4.block Y (Array.getElem?_eq_some_iff.1 HY5.out).1 (fun h => h)).trans HY5.out
  have HY6 := Lib.hid hy6
  have HO6 := Lib.hid (HO5.out.trans' o4 (fun q hq e => by exact e.elim))
  clear hr6 hy6
  clear o4
  clear HR5 HO5 HD5 HY5
  obtain ⟨y0, y1, y2, y3, yz⟩ := boxN4 HY6.out
  go_upto_region 14 with (fail)
  clear y0 y1 y2 y3 yz
  have hy7 := heap_set (o := 0) HY6.out (.int .u8 5)
  have hy7 : (w6.setCell ⟨Y, 0, none⟩ (.int .u8 5)).heap[Y]? = some (.cells #[.int .u8 5, .string ⟨#[]⟩, .slice none 0 0, .slice none 0 0] 34 (0, 0)) := by simpa using hy7
  have os7 : Only (fun k => k = Y) w6 (w6.setCell ⟨Y, 0, none⟩ (.int .u8 5)) := (Only.refl (fun k => k = Y) _).setCell (p := ⟨Y, 0, none⟩) (.inl rfl) _
  obtain ⟨w7, hw7⟩ : ∃ x, w6.setCell ⟨Y, 0, none⟩ (.int .u8 5) = x := ⟨_, rfl⟩
  rw [hw7] at hy7 os7
  rw [hw7]
  clear hw7
  have HY7 := Lib.hid hy7; have HD7 := Lib.hid (HD6.out.only os7 (fun k hk e => by omega)); have HJ7 := HJ6
  have hr7 := (os7.block B (Array.getElem?_eq_some_iff.1 HR6.out).1 (by omega)).trans HR6.out
  have HR7 := Lib.hid hr7
  have HO7 := Lib.hid (HO6.out.trans' os7 (fun q hq e => by have e : q = Y := e; have := HWB.out; omega))
  clear hr7
  clear hy7 os7 HJ6
  clear HR6 HO6 HD6 HY6
  obtain ⟨_, _, _, _, _, _, _, j, bdj, e0, e1, e2, e3, e4, ez, jlt, jc, jN, -⟩ := HD7.out.next
  have jlt2 : (j : Int) + 1 ≤ 1000000 := by omega
  have hdj := HD7.out.step HK0.out e1
  have oj : Only (fun k => k = b) w7 (w7.setCell ⟨b, 1, none⟩ (.int .i64 ((j : Int) + 1))) := (Only.refl (fun k => k = b) w7).setCell (.inl rfl) _
  obtain ⟨w8, hwj⟩ : ∃ y, w7.setCell ⟨b, 1, none⟩ (.int .i64 ((j : Int) + 1)) = y := ⟨_, rfl⟩
  rw [hwj] at hdj oj
  rw [HS0.out] at hdj
  have HDJ := Lib.hid hdj; have HWJ := Lib.hid hwj; have OJ := Lib.hid oj
  clear hdj hwj oj
  go_upto_region 15 with (fail)
  rw [HWJ.out]
  clear HWJ e0 e1 e2 e3 e4 ez jlt jc jN jlt2
  have HD8 := HDJ; have HJ8 := HJ7
  have hr8 := (OJ.out.block B (Array.getElem?_eq_some_iff.1 HR7.out).1 (by omega)).trans HR7.out
  have HR8 := Lib.hid hr8
  have hy8 := (OJ.out.block Y (Array.getElem?_eq_some_iff.1 HY7.out).1 (by omega)).trans HY7.out
  have HY8 := Lib.hid hy8
  have HO8 := Lib.hid (HO7.out.trans' OJ.out (fun q hq e => by exact e))
  clear hr8 hy8
  clear OJ HDJ HJ7
  clear HR7 HO7 HD7 HY7
  have J := Lib.hid (fName_any b all σ0 w8 HD8.out)
  go_wp2_with fail
  refine J.out.mono ?_
  rintro e w9 ⟨v, rfl, ⟨s9, rfl⟩, hd, hv, o4⟩
  have hv : ∀ x q, (σ0.bind fun _ => nameP) = .ok x q → s9 = x := fun x q e => strF_inj (hv x q e)
  obtain ⟨σ9, hσ⟩ : ∃ z, (σ0.bind fun _ => nameP).unit = z := ⟨_, rfl⟩
  rw [hσ] at hd
  have hj := Jn.call (fun x => s9 = x) HJ8.out hσ.symm hv
  have HJ9 := Lib.hid hj; have HD9 := Lib.hid hd
  clear hj hd hv hσ HJ8 J
  have hr9 := (o4.block B (Array.getElem?_eq_some_iff.1 HR8.out).1 (by omega)).trans HR8.out
  have HR9 := Lib.hid hr9
  have hy9 := (o4.block Y (Array.getElem?_eq_some_iff.1 HY8.out).1 (by omega)).trans HY8.out
  have HY9 := Lib.hid hy9
  have HO9 := Lib.hid (HO8.out.trans' o4 (fun q hq e => by exact e))
  clear hr9 hy9
  clear o4
  clear HR8 HO8 HD8 HY8
  obtain ⟨y0, y1, y2, y3, yz⟩ := boxN4 HY9.out
  go_upto_region 16 with (fail)
  clear y0 y1 y2 y3 yz
  have hy10 := heap_set (o := 1) HY9.out (.string ⟨s9.toArray⟩)
  have hy10 : (w9.setCell ⟨Y, 1, none⟩ (.string ⟨s9.toArray⟩)).heap[Y]? = some (.cells #[.int .u8 5, .string ⟨s9.toArray⟩, .slice none 0 0, .slice none 0 0] 34 (0, 0)) := by simpa using hy10
  have os10 : Only (fun k => k = Y) w9 (w9.setCell ⟨Y, 1, none⟩ (.string ⟨s9.toArray⟩)) := (Only.refl (fun k => k = Y) _).setCell (p := ⟨Y, 1, none⟩) (.inl rfl) _
  obtain ⟨w10, hw10⟩ : ∃ x, w9.setCell ⟨Y, 1, none⟩ (.string ⟨s9.toArray⟩) = x := ⟨_, rfl⟩
  rw [hw10] at hy10 os10
  rw [hw10]
  clear hw10
  have HY10 := Lib.hid hy10; have HD10 := Lib.hid (HD9.out.only os10 (fun k hk e => by omega)); have HJ10 := HJ9
  have hr10 := (os10.block B (Array.getElem?_eq_some_iff.1 HR9.out).1 (by omega)).trans HR9.out
  have HR10 := Lib.hid hr10
  have HO10 := Lib.hid (HO9.out.trans' os10 (fun q hq e => by have e : q = Y := e; have := HWB.out; omega))
  clear hr10
  clear hy10 os10 HJ9
  clear HR9 HO9 HD9 HY9
  obtain ⟨y0, y1, y2, y3, yz⟩ := boxN4 HY10.out
  go_upto_region 41 with (fail)
  clear y0 y1 y2 y3 yz
  have J := Lib.hid (fMust_any b all σ9 [123] w10 HD10.out)
  go_wp2_with fail
  refine J.out.mono ?_
  rintro e w11 ⟨rfl, hd, o4⟩
  have hv : ∀ x q, (σ9.bind fun _ => wantP [123]) = .ok x q → True := fun _ _ _ => trivial
  obtain ⟨σ11, hσ⟩ : ∃ z, (σ9.bind fun _ => wantP [123]).unit = z := ⟨_, rfl⟩
  rw [hσ] at hd
  have hj := Jn.call (fun _ => True) HJ10.out hσ.symm hv
  have HJ11 := Lib.hid hj; have HD11 := Lib.hid hd
  clear hj hd hv hσ HJ10 J
  have hr11 := (o4.block B (Array.getElem?_eq_some_iff.1 HR10.out).1 (by omega)).trans HR10.out
  have HR11 := Lib.hid hr11
  have hy11 := (o4.block Y (Array.getElem?_eq_some_iff.1 HY10.out).1 (by omega)).trans HY10.out
  have HY11 := Lib.hid hy11
  have HO11 := Lib.hid (HO10.out.trans' o4 (fun q hq e => by exact e))
  clear hr11 hy11
  clear o4
  clear HR10 HO10 HD10 HY10
  have J := Lib.hid (finputs_any b all HDZ.out σ11 [125] w11 HD11.out)
  go_wp2_with fail
  refine J.out.mono ?_
  rintro e w12 ⟨v, rfl, ⟨ar12, lr12, cr12, rfl⟩, hd, hv, o4⟩
  have hsy : Y < w11.heap.size := (Array.getElem?_eq_some_iff.1 HY11.out).1
  have hv : ∀ x q, (σ11.bind fun _ => (fun r => manyP inP [125] (r.length + 1) [] r)) = .ok x q → CellAt w12 (fun q => Y < q) (.row 11 (x.map inC)) (.slice ar12 lr12 cr12) := fun x q e => CellAt.weaken (fun q _ h => by have h : w11.heap.size ≤ q := h; show Y < q; omega) _ _ (hv x q e)
  obtain ⟨σ12, hσ⟩ : ∃ z, (σ11.bind fun _ => (fun r => manyP inP [125] (r.length + 1) [] r)).unit = z := ⟨_, rfl⟩
  rw [hσ] at hd
  have hj := Jn.call (fun x => CellAt w12 (fun q => Y < q) (.row 11 (x.map inC)) (.slice ar12 lr12 cr12)) HJ11.out hσ.symm hv
  have HJ12 := Lib.hid hj; have HD12 := Lib.hid hd
  clear hj hd hv hσ HJ11 J hsy
  have hr12 := (o4.block B (Array.getElem?_eq_some_iff.1 HR11.out).1 (by omega)).trans HR11.out
  have HR12 := Lib.hid hr12
  have hy12 := (o4.block Y (Array.getElem?_eq_some_iff.1 HY11.out).1 (by omega)).trans HY11.out
  have HY12 := Lib.hid hy12
  have HO12 := Lib.hid (HO11.out.trans' o4 (fun q hq e => by exact e))
  clear hr12 hy12
  have HC12_12 := Lib.hid (Only.refl (fun k => k ≤ Y) w12)
  clear o4
  clear HR11 HO11 HD11 HY11
  obtain ⟨y0, y1, y2, y3, yz⟩ := boxN4 HY12.out
  go_upto_region 43 with (fail)
  clear y0 y1 y2 y3 yz
  have hy13 := heap_set (o := 2) HY12.out (.slice ar12 lr12 cr12)
  have hy13 : (w12.setCell ⟨Y, 2, none⟩ (.slice ar12 lr12 cr12)).heap[Y]? = some (.cells #[.int .u8 5, .string ⟨s9.toArray⟩, .slice ar12 lr12 cr12, .slice none 0 0] 34 (0, 0)) := by simpa using hy13
  have os13 : Only (fun k => k = Y) w12 (w12.setCell ⟨Y, 2, none⟩ (.slice ar12 lr12 cr12)) := (Only.refl (fun k => k = Y) _).setCell (p := ⟨Y, 2, none⟩) (.inl rfl) _
  obtain ⟨w13, hw13⟩ : ∃ x, w12.setCell ⟨Y, 2, none⟩ (.slice ar12 lr12 cr12) = x := ⟨_, rfl⟩
  rw [hw13] at hy13 os13
  rw [hw13]
  clear hw13
  have HY13 := Lib.hid hy13; have HD13 := Lib.hid (HD12.out.only os13 (fun k hk e => by omega)); have HJ13 := HJ12
  have hr13 := (os13.block B (Array.getElem?_eq_some_iff.1 HR12.out).1 (by omega)).trans HR12.out
  have HR13 := Lib.hid hr13
  have HC12_13 := Lib.hid (HC12_12.out.trans' os13 (fun q hq e => by have e : q = Y := e; show q ≤ Y; omega))
  have HO13 := Lib.hid (HO12.out.trans' os13 (fun q hq e => by have e : q = Y := e; have := HWB.out; omega))
  clear hr13
  clear hy13 os13 HJ12
  clear HR12 HO12 HD12 HY12 HC12_12
  obtain ⟨y0, y1, y2, y3, yz⟩ := boxN4 HY13.out
  go_wp2_with ((refine wpList_store_box (o := ⟨none, _, _, _, _, _⟩) rfl 34 (.tmp 2) (.tmp 136) (by rfl) B [.int .u8 0, .string ⟨#[]⟩, .slice none 0 0, .slice none 0 0] [.int .u8 5, .string ⟨s9.toArray⟩, .slice ar12 lr12 cr12, .slice none 0 0] (by rfl) (by rfl) HR13.out (by rfl) (by kernel_rfl) (by intro u hu; simp at hu; rcases hu with rfl | rfl | rfl | rfl <;> rfl) ?_; intro w9 k1 k2))
  clear y0 y1 y2 y3 yz
  obtain ⟨y0, y1, y2, y3, -⟩ := boxN4 k1
  obtain ⟨hdn, hxs⟩ := HJ13.out.done
  have hd9 : Rf w9 b all total.unit := by rw [← hdn]; exact HD13.out.only k2 (fun k hk e => by omega)
  have o12 := HC12_13.out.trans' k2 (fun q hq e => by have e : q = B := e; show q ≤ Y; omega)
  have hag : ∀ x q, total = .ok x q → aggP B tdC w9 x (.agg #[.int .u8 5, .string ⟨s9.toArray⟩, .slice ar12 lr12 cr12, .slice none 0 0]) := fun x q e => by
    obtain ⟨⟨⟨⟨u, n1⟩, u2⟩, l1⟩, rfl, ⟨⟨⟨-, k1⟩, -⟩, k3⟩⟩ := hxs x q e
    subst k1
    exact ⟨_, rfl, CellsAt.lit rfl (CellsAt.lit rfl (CellsAt.cons (by rw [← ofF_cells]; exact CellAt.weaken (G' := fun q => B ≤ q) (fun q _ h => by have h : Y < q := h; show B ≤ q; omega) _ _ (CellAt.only o12 (fun k hk e => by have hk : Y < k := hk; have e : k ≤ Y := e; omega) _ _ k3)) (CellsAt.cons (CellAt.nilRow _ _ _) (CellsAt.nil _ _))))⟩
  exact bodyPost_ret (v := .agg #[.int .u8 5, .string ⟨s9.toArray⟩, .slice ar12 lr12 cr12, .slice none 0 0]) (by simp [results, Tryz.results12, go_sem, y0, y1, y2, y3]) rfl (HPP.out w9 _ ⟨5, s9, ar12, lr12, cr12, none, 0, 0, rfl⟩ hd9 hag (HO13.out.trans' k2 (fun q hq e => by have := HWB.out; omega)))
end Go.Proofs.YtgephneppgcnlaaGreatDoor
namespace Go.Proofs.YtgephneppgcnlaaGreatDoor
open Go Go.RowKit
set_option linter.unusedVariables false
set_option linter.unusedSimpArgs false

theorem infoTdF : (Tryz.prog.info? 34).map (fun i => (i.zero, i.size, i.bytes)) = some (some (.agg #[.int .u8 0, .string ByteArray.empty, .slice none 0 0, .slice none 0 0]), 4, 72) := by kernel_rfl
def boolN : Value → Nat
  | .bool true => 1
  | _ => 0
def OneT (w : World) (b : Nat) (ts r1 : List Tok) (td : TD) (v : Value) (wr : World) : Bool → Prop
  | true => v = .slice none 0 0 ∧ Rf wr b ⟨ts, 0⟩ (.ok () ts) ∧ Only (fun _ => False) w wr
  | false => ∃ a c, v = .slice a 1 c ∧ CellAt wr (fun q => w.heap.size ≤ q) (.row 4 [tdC td]) (.slice a 1 c) ∧ Rf wr b ⟨ts, 0⟩ (.ok () r1) ∧ Only (fun _ => False) w wr
set_option maxRecDepth 100000 in
set_option maxHeartbeats 8000000 in
theorem ftypes_one (s : ByteArray) (w : World) (hs : s.size ≤ maxLen) (ts : List Tok) (ht : toks s.data.toList = .ok ts) (hf : ∀ i, i < 4 → isT (wordK i) ts = false) (hy : isT (wordK 4) ts = true) (td : TD) (r1 : List Tok) (h1 : tdP ts = .ok td r1) (h2 : isK 0 r1 = true) :
    Calls Tryz.prog 6 #[.string s] w (fun e w' => ∃ a c, e = .returned (.tuple #[.slice a 1 c, .int .i64 0, .int .i64 0]) ∧ CellAt w' (fun q => w.heap.size ≤ q) (.row 4 [tdC td]) (.slice a 1 c) ∧ Only (fun _ => False) w w') := by
  have J := Lib.hid (rtokens_any s w hs)
  rw [ht] at J
  have HW := Lib.hid (toks_words ht)
  obtain ⟨he, hl⟩ := toks_end ht
  have HE := Lib.hid he; have HL := Lib.hid hl; have HF := Lib.hid hf; have HY := Lib.hid hy; have H1 := Lib.hid h1; have H2 := Lib.hid h2
  clear hs ht he hl hf hy h1 h2
  obtain ⟨Q, hQ⟩ : ∃ Q, (fun (e : Ending) (w' : World) => ∃ a c, e = .returned (.tuple #[.slice a 1 c, .int .i64 0, .int .i64 0]) ∧ CellAt w' (fun q => w.heap.size ≤ q) (.row 4 [tdC td]) (.slice a 1 c) ∧ Only (fun _ => False) w w') = Q := ⟨_, rfl⟩
  have HP := Lib.hid (show ∀ w' a c, CellAt w' (fun q => w.heap.size ≤ q) (.row 4 [tdC td]) (.slice a 1 c) → Only (fun _ => False) w w' → Q (.returned (.tuple #[.slice a 1 c, .int .i64 0, .int .i64 0])) w' from fun w' a c k1 k2 => by rw [← hQ]; exact ⟨a, c, rfl, k1, k2⟩)
  rw [hQ]; clear hQ
  go_enter Tryz.func6, Tryz.ntmps6
  go_wp2_with fail
  refine J.out.mono ?_
  rintro e w1 ⟨v, rfl, hv, o1⟩
  have hpos : 0 < ts.length := by have h1 := HE.out; cases ts with | nil => exact h1.elim | cons t u => simp
  obtain ⟨g, cg, rfl, hgB, hgz, -⟩ := own_range hv hpos
  have htr := TRow.of_own hv hpos
  obtain ⟨b, hb⟩ : ∃ b, w1.heap.size = b := ⟨_, rfl⟩
  obtain ⟨w2, hw2⟩ : ∃ x, w1.alloc (.cells #[.slice (some ⟨g, 0, none⟩) ts.length cg, .int .i64 0, .int .i64 0, .int .i64 0, .int .i64 0] 57) = x := ⟨_, rfl⟩
  have oa2 : Only (fun _ => False) w1 w2 := by rw [← hw2]; exact (Only.refl _ w1).alloc _
  have hb2 : w2.heap[b]? = some (.cells #[.slice (some ⟨g, 0, none⟩) ts.length cg, .int .i64 0, .int .i64 0, .int .i64 0, .int .i64 0] 57 (0, 0)) := by rw [← hw2, ← hb]; exact heap_new _ _
  have hwb : w.heap.size ≤ b := by have := o1.size; omega
  have hrd : Rf w2 b ⟨ts, 0⟩ (.ok () ts) := ⟨0, 0, 0, 0, ⟨⟨g, 0, cg, hb2, htr.still oa2, by omega⟩, by show ts.length ≤ _; have := HL.out; omega, HW.out⟩, rfl, rfl, HE.out, 0, rfl, rfl, by show 0 + ts.length = ts.length; omega⟩
  have HI := Lib.hid (show OneT w b ts r1 td (.slice none 0 0) w2 true from ⟨rfl, hrd, o1.trans oa2⟩)
  have HB := Lib.hid hb; have HW2 := Lib.hid hw2
  clear hb hw2 oa2 hb2 hrd htr hv o1 hgB hgz hpos J HE HL HW
  go_upto_region 5 with (fail)
  rw [HB.out, HW2.out]
  clear HB HW2
  go_wp2_with fail
  go_loopw [9, 10] (fun v9 v10 wr => ∃ first : Bool, v10 = .bool first ∧ Hid (OneT w b ts r1 td v9 wr first)) (fun _ v10 _ => boolN v10)
  case atStart => exact ⟨true, rfl, HI⟩
  case round =>
    obtain ⟨first, rfl, hrel⟩ := hrel
    cases first with
    | true =>
      obtain ⟨rfl, hd, hon⟩ := hrel.out
      have hblt := hd.lt
      have J := Lib.hid (fone_4 b ⟨ts, 0⟩ rfl ts HF.out HY.out wr hd)
      have HON := Lib.hid hon
      clear hd hon hrel HI
      go_wp2_with fail
      refine J.out.mono ?_
      rintro e w3 ⟨v, rfl, ⟨k, s0, a0, l0, e0, a1, l1, e1, rfl⟩, hd3, hv, o3⟩
      have hd3 : Rf w3 b ⟨ts, 0⟩ (tdP ts).unit := hd3
      rw [H1.out] at hd3
      have hvc := aggF_cells (hv td r1 H1.out)
      have hO3 : Only (fun _ => False) w w3 := HON.out.trans' o3 (fun q hq e => by have e : q = b := e; omega)
      have hs3 : wr.heap.size ≤ w3.heap.size := o3.size
      obtain ⟨X, hX⟩ : ∃ X, w3.heap.size = X := ⟨_, rfl⟩
      obtain ⟨w4, hw4⟩ : ∃ x, w3.alloc (.cells #[.int .u8 (k : Int), .string ⟨s0.toArray⟩, .slice a0 l0 e0, .slice a1 l1 e1] 34) = x := ⟨_, rfl⟩
      have o4 : Only (fun _ => False) w3 w4 := by rw [← hw4]; exact (Only.refl _ _).alloc _
      have hx4 : w4.heap[X]? = some (.cells #[.int .u8 (k : Int), .string ⟨s0.toArray⟩, .slice a0 l0 e0, .slice a1 l1 e1] 34 (0, 0)) := by rw [← hw4, ← hX]; exact heap_new _ _
      obtain ⟨G, hG⟩ : ∃ G, w4.heap.size = G := ⟨_, rfl⟩
      obtain ⟨w5, hw5⟩ : ∃ x, w4.alloc (.cells #[.int .u8 (k : Int), .string ⟨s0.toArray⟩, .slice a0 l0 e0, .slice a1 l1 e1] 34) = x := ⟨_, rfl⟩
      have o5 : Only (fun _ => False) w4 w5 := by rw [← hw5]; exact (Only.refl _ _).alloc _
      have hg5 : w5.heap[G]? = some (.cells #[.int .u8 (k : Int), .string ⟨s0.toArray⟩, .slice a0 l0 e0, .slice a1 l1 e1] 34 (0, 0)) := by rw [← hw5, ← hG]; exact heap_new _ _
      have hys : ∀ j u, ([.int .u8 (k : Int), .string ⟨s0.toArray⟩, .slice a0 l0 e0, .slice a1 l1 e1] : List Value)[j]? = some u → w5.cell? ((⟨G, 0, none⟩ : Addr).add j) = some u := fun j u hu => by rw [addr_add]; exact range_of_block (cs := [.int .u8 (k : Int), .string ⟨s0.toArray⟩, .slice a0 l0 e0, .slice a1 l1 e1]) hg5 j u hu
      have hone : ∀ u ∈ ([.int .u8 (k : Int), .string ⟨s0.toArray⟩, .slice a0 l0 e0, .slice a1 l1 e1] : List Value), u.oneCell' = true := by intro u hu; simp at hu; rcases hu with rfl | rfl | rfl | rfl <;> rfl
      have hgs : w.heap.size ≤ w5.heap.size := by have := (hO3.trans (o4.trans o5)).size; omega
      have HX := Lib.hid hX; have HW4 := Lib.hid hw4; have HX4 := Lib.hid hx4; have HG := Lib.hid hG; have HW5 := Lib.hid hw5; have HYS := Lib.hid hys; have HONE := Lib.hid hone
      have HD5 := Lib.hid (hd3.still (o4.trans o5)); have HO5 := Lib.hid (hO3.trans (o4.trans o5))
      have HV5 := Lib.hid (show CellsAt w5 (fun q => w.heap.size ≤ q ∧ (Value.slice none 0 0).ownBlock ≠ some q ∧ q < w5.heap.size) (tdC td) [.int .u8 (k : Int), .string ⟨s0.toArray⟩, .slice a0 l0 e0, .slice a1 l1 e1] from CellsAt.weaken (fun q hq h => by have h : wr.heap.size ≤ q := h; have := HON.out.size; exact ⟨by omega, by simp [Value.ownBlock], hq⟩) _ _ (CellsAt.only (o4.trans o5) (fun _ _ h => h) _ _ hvc))
      have HGS := Lib.hid hgs
      clear hX hw4 hx4 hG hw5 hys hone hd3 hO3 o4 o5 hg5 hv hvc o3 J hgs hs3
      go_upto_region 10 with (fail)
      rw [HX.out, HW4.out]
      clear HX HW4
      obtain ⟨x0, x1, x2, x3, -⟩ := boxN4 HX4.out
      go_wp2_with ((rw [HG.out, HW5.out]; refine wpList_append_own2 (o := ⟨some 43, _, _, _, _, _⟩) rfl (.tmp 40) (.tmp 42) 23 34 (by rfl) Tryz.underlying23 infoTdF rfl (by decide) w.heap.size (.slice none 0 0) 0 1 1 [] [.int .u8 (k : Int), .string ⟨s0.toArray⟩, .slice a0 l0 e0, .slice a1 l1 e1] ⟨G, 0, none⟩ (by rfl) (by rfl) (own_nil _ _ _ _) (by rfl) HYS.out HONE.out (by unfold maxLen; omega) (by omega) HGS.out ?_; intro v' w9 q1 q2 q3; obtain ⟨aL', cL', eL', gL1, gL2, -⟩ := own_form q1; subst eL'; clear x0 x1 x2 x3))
      have hrow := OwnRow.append (rs := []) (own_nil w5 w.heap.size 34 4) rfl rfl HV5.out q1 q2 q3
      have hq0 : Only (fun _ => False) w5 w9 := q2.mono (fun q _ h => by simp [Value.ownBlock] at h)
      have HNEW := Lib.hid (show OneT w b ts r1 td (.slice aL' (0 + 1) cL') w9 false from ⟨aL', cL', rfl, hrow.cell, HD5.out.still hq0, HO5.out.trans hq0⟩)
      clear hrow hq0 q1 q2 q3 gL1 gL2 HV5 HD5 HO5
      go_wp2_with fail
      go_roundw
      case rel => first | exact ⟨false, rfl, HNEW⟩ | ((repeat apply Exists.intro); refine ⟨?_, rfl⟩; exact ⟨false, rfl, HNEW⟩)
      case measure => simp [boolN]
    | false =>
      obtain ⟨a, c, rfl, hc, hd, hon⟩ := hrel.out
      have K := Lib.hid (fKind_any b ⟨ts, 0⟩ (.ok () r1) 0 wr hd (by decide))
      rw [show tst (.ok () r1 : PR Unit) (isK 0) = true from H2.out] at K
      obtain ⟨e0, ce, cz, hσ⟩ := hd.err
      have he0 : e0 = 0 := by rcases hσ with ⟨_, _, h⟩ | ⟨_, h, _⟩; exact h; cases h
      subst he0
      have HC := Lib.hid hc; have HD := Lib.hid hd; have HON := Lib.hid hon
      clear hc hd hon hrel HI hσ
      go_wp2_with fail
      refine K.out.mono ?_
      rintro e w3 ⟨rfl, o3⟩
      obtain ⟨e0, ce', cz', hσ⟩ := (HD.out.still o3).err
      have he0 : e0 = 0 := by rcases hσ with ⟨_, _, h⟩ | ⟨_, h, _⟩; exact h; cases h
      subst he0
      have HEND := Lib.hid (HP.out w3 a c (CellAt.only o3 (fun _ _ h => h) _ _ HC.out) (HON.out.trans o3))
      clear o3 hσ ce cz
      go_wp2_with fail
      clear ce' cz'
      first
        | exact HEND.out
        | (go_ret; exact HEND.out)
end Go.Proofs.YtgephneppgcnlaaGreatDoor
