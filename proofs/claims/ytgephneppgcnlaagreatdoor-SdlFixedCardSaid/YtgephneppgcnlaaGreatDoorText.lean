/- lex.text: a text in quotes. -/
import Derived.Test.YtgephneppgcnlaaGreatDoorNumb
namespace Go.Proofs.YtgephneppgcnlaaGreatDoor
open Go Go.RowKit
set_option linter.unusedVariables false
set_option linter.unusedSimpArgs false

def escX (d : UInt8) : Option UInt8 := if d.toNat = 34 ∨ d.toNat = 92 ∨ d.toNat = 47 then some d else if d.toNat = 110 then some 10 else if d.toNat = 116 then some 9 else none
theorem esc_ix (d : UInt8) : (Lib.indexByte [34, 92, 47, 110, 116] d = -1 ∧ escX d = none) ∨
    (0 ≤ Lib.indexByte [34, 92, 47, 110, 116] d ∧ Lib.indexByte [34, 92, 47, 110, 116] d < 5 ∧ escX d = ([34, 92, 47, 10, 9] : List UInt8)[(Lib.indexByte [34, 92, 47, 110, 116] d).toNat]?) := by
  revert d; refine u8_all ?_; decide +kernel
theorem txtP_nil (acc : List UInt8) (k : Nat) : txtP acc k [] = .bad k 4 := by rw [txtP.eq_def]
theorem txtP_q (acc : List UInt8) (k : Nat) {c : UInt8} (l : List UInt8) (h : c.toNat = 34) : txtP acc k (c :: l) = if 200 < acc.length then .bad 0 2 else .ok 3 acc 0 (k + 1) := by rw [txtP.eq_def]; simp only; rw [if_pos h]
theorem txtP_n (acc : List UInt8) (k : Nat) {c : UInt8} (l : List UInt8) (h : c.toNat = 10) : txtP acc k (c :: l) = .bad k 4 := by rw [txtP.eq_def]; simp only; rw [if_neg (by omega), if_pos h]
theorem txtP_e0 (acc : List UInt8) (k : Nat) {c : UInt8} (h : c.toNat = 92) : txtP acc k [c] = .bad (k + 1) 4 := by rw [txtP.eq_def]; simp only; rw [if_neg (by omega), if_neg (by omega), if_pos h]
theorem txtP_e (acc : List UInt8) (k : Nat) {c : UInt8} (d : UInt8) (l : List UInt8) (h : c.toNat = 92) : txtP acc k (c :: d :: l) = match escX d with | some x => txtP (acc ++ [x]) (k + 2) l | none => .bad (k + 1) 4 := by
  rw [txtP.eq_def]; simp only; rw [if_neg (by omega), if_neg (by omega), if_pos h]
  unfold escX
  split
  · rfl
  · split
    · rfl
    · split <;> rfl
theorem txtP_o (acc : List UInt8) (k : Nat) {c : UInt8} (l : List UInt8) (h1 : c.toNat ≠ 34) (h2 : c.toNat ≠ 10) (h3 : c.toNat ≠ 92) : txtP acc k (c :: l) = txtP (acc ++ [c]) (k + 1) l := by rw [txtP.eq_def]; simp only; rw [if_neg h1, if_neg h2, if_neg h3]
theorem drop_get (s : ByteArray) (k : Nat) (h : k < s.size) : s.data.toList.drop k = s[k] :: s.data.toList.drop (k + 1) := List.drop_eq_getElem_cons (show k < s.data.toList.length from h)
theorem drop_all (s : ByteArray) (k : Nat) (h : s.size ≤ k) : s.data.toList.drop k = [] := List.drop_eq_nil_of_le h
theorem only_below {B : Nat} {w w' : World} (h : Below B w w') : Only (fun k => B ≤ k) w w' := ⟨h.os, h.tape, h.output, h.size, fun k _ hk => h.block k (by omega)⟩
theorem cells_snoc (l : List UInt8) (x : UInt8) : Lib.byteCells l ++ [.int .u8 (x.toNat : Int)] = Lib.byteCells (l ++ [x]) := by simp [Lib.byteCells]
set_option maxRecDepth 100000 in
set_option maxHeartbeats 4000000 in
theorem text_any (s : ByteArray) (w : World) (hs : s.size ≤ 1000000) (h0 : 0 < s.size) :
    Calls Tryz.prog 44 #[.string s] w fun e w' => e = .returned (oneV (txtP [] 1 (s.data.toList.drop 1))) ∧ Only (fun _ => False) w w' := by
  obtain ⟨P, hP⟩ : ∃ P, txtP [] 1 (s.data.toList.drop 1) = P := ⟨_, rfl⟩
  rw [hP]
  obtain ⟨W, hW⟩ : ∃ W, W = (w.alloc (.cells #[.int .u8 0, .string ⟨#[]⟩, .int .i64 0, .int .i64 0] 50)).alloc (.cells #[.pointer none, .slice none 0 0] 93) := ⟨_, rfl⟩
  have hbx : W.heap[w.heap.size]? = some (.cells [.int .u8 0, .string ⟨#[]⟩, .int .i64 0, .int .i64 0].toArray 50 (0, 0)) := by rw [hW]; exact heap_old (heap_new _ _) _
  have hbb : W.heap[w.heap.size + 1]? = some (.cells #[.pointer none, .slice none 0 0] 93 (0, 0)) := by
    have := heap_new (w.alloc (.cells #[.int .u8 0, .string ⟨#[]⟩, .int .i64 0, .int .i64 0] 50)) (.cells #[.pointer none, .slice none 0 0] 93)
    rw [hW]; simpa using this
  have hOw : Only (fun _ => False) w W := by rw [hW]; exact ((Only.refl _ w).alloc _).alloc _
  obtain ⟨b0, hb0⟩ : ∃ b0, w.heap.size = b0 := ⟨_, rfl⟩
  have hsz : W.heap.size = b0 + 2 := by rw [hW, ← hb0]; simp
  rw [hb0] at hbx hbb
  have hib : Lib.IsBuilder 93 5 (b0 + 1) (b0 + 1) (Lib.byteCells []) W := .inl ⟨Nat.le_refl _, _, hbb, own_nil _ _ _ _, by simp [Value.ownBlock]⟩
  have HBX := Lib.hid hbx; have HOW := Lib.hid hOw; have HB0 := Lib.hid hb0; have HIB := Lib.hid hib; have HW := Lib.hid hW; have HSZ := Lib.hid hsz; have HP := Lib.hid hP
  clear hbx hbb hOw hib hP hsz
  go_enter Tryz.func44, Tryz.ntmps44
  go_upto_region 2 with (fail)
  rw [← HW.out]
  try rw [hb0]
  clear hb0 hW HW
  go_wp2_with fail
  go_loopw [7] (fun i wr => ∃ k acc, i = .int .i64 (k : Nat) ∧ k ≤ s.size ∧ acc.length ≤ k ∧ Hid (Lib.IsBuilder 93 5 (b0 + 1) (b0 + 1) (Lib.byteCells acc) wr) ∧ Hid (Below (b0 + 1) W wr) ∧ Hid (txtP acc k (s.data.toList.drop k) = P)) (fun i _ => s.size - (intOf i).toNat)
  case atStart => exact ⟨1, [], by simp, by omega, by simp, HIB, Lib.hid (Below.refl _ _), HP⟩
  case round =>
    obtain ⟨k, acc, rfl, hk, hacc, IB, BW, TP⟩ := hrel
    have hbx2 := BW.out.block b0 (by omega)
    rw [HBX.out] at hbx2
    have hO2 : Only (fun _ => False) w wr := HOW.out.trans' (only_below BW.out) (fun q hq h => by have := HB0.out; omega)
    have hszr : b0 + 1 ≤ wr.heap.size := by have := BW.out.size; have := HSZ.out; omega
    have HBX2 := Lib.hid hbx2; have HO2 := Lib.hid hO2; have HSR := Lib.hid hszr; clear hbx2 hO2 hszr
    by_cases hlt : k < s.size
    · have t1 : decide ((k : Int) < (s.size : Int)) = true := decide_eq_true (by omega)
      have tp := TP.out
      rw [drop_get s k hlt] at tp
      have TC := Lib.hid tp; clear tp TP
      by_cases c1 : (s[k].toNat : Int) = 34
      · have t2 : decide ((s[k].toNat : Int) = 34) = true := decide_eq_true c1
        have L := Lib.hid (Tryz.Builder_Len (b0 + 1) (b0 + 1) (Lib.byteCells acc) wr IB.out)
        rw [Lib.byteCells_length] at L
        have hal : acc.length ≤ 1000000 := by omega
        go_wp2_with fail
        refine L.out.mono ?_
        rintro e w2 ⟨rfl, rfl⟩
        by_cases c2 : 200 < acc.length
        · have t3 : decide ((acc.length : Int) > 200) = true := decide_eq_true (by omega)
          go_wp2_with ((refine wpList_store_box (o := ⟨none, _, _, _, _, _⟩) rfl 50 (.tmp 2) (.tmp 26) (by rfl) b0 [.int .u8 0, .string ⟨#[]⟩, .int .i64 0, .int .i64 0] [.int .u8 0, .string ⟨#[]⟩, .int .i64 0, .int .i64 0] (by rfl) (by rfl) HBX2.out (by rfl) (by kernel_rfl) (by intro u hu; simp at hu; rcases hu with rfl | rfl | rfl | rfl <;> rfl) ?_; intro w9 k1 k2))
          obtain ⟨z0, z1, z2, z3⟩ := box4 k1
          have hoW : Only (fun _ => False) w w9 := HO2.out.trans' k2 (fun q hq e => by have := HB0.out; omega)
          have HOZ := Lib.hid hoW; clear hoW k2
          go_wp2_with fail
          have e : P = .bad 0 2 := by rw [← TC.out, txtP_q _ _ _ (by omega), if_pos c2]
          exact bodyPost_ret (v := oneV P) (by rw [e]; simp [oneV, tokV, results, Tryz.results44, go_sem, z0, z1, z2, z3]) rfl ⟨rfl, HOZ.out⟩
        · have t3 : decide ((acc.length : Int) > 200) = false := decide_eq_false (by omega)
          have SC := Lib.hid (Tryz.Builder_String_any (b0 + 1) (b0 + 1) acc w2 IB.out HSR.out)
          go_wp2_with fail
          refine SC.out.mono ?_
          rintro e w3 ⟨rfl, B3⟩
          have hbx3 := B3.block b0 (by omega)
          rw [HBX2.out] at hbx3
          have hO3 : Only (fun _ => False) w w3 := HO2.out.trans' (only_below B3) (fun q hq h => by have := HB0.out; omega)
          have HBX3 := Lib.hid hbx3; have HO3 := Lib.hid hO3; clear hbx3 hO3 B3
          go_wp2_with ((refine wpList_store_box (o := ⟨none, _, _, _, _, _⟩) rfl 50 (.tmp 2) (.tmp 28) (by rfl) b0 [.int .u8 0, .string ⟨#[]⟩, .int .i64 0, .int .i64 0] [.int .u8 3, .string ⟨acc.toArray⟩, .int .i64 0, .int .i64 0] (by rfl) (by rfl) HBX3.out (by rfl) (by kernel_rfl) (by intro u hu; simp at hu; rcases hu with rfl | rfl | rfl | rfl <;> rfl) ?_; intro w9 k1 k2))
          obtain ⟨z0, z1, z2, z3⟩ := box4 k1
          have hoW : Only (fun _ => False) w w9 := HO3.out.trans' k2 (fun q hq e => by have := HB0.out; omega)
          have HOZ := Lib.hid hoW; clear hoW k2
          go_wp2_with fail
          have e : P = .ok 3 acc 0 (k + 1) := by rw [← TC.out, txtP_q _ _ _ (by omega), if_neg c2]
          exact bodyPost_ret (v := oneV P) (by rw [e]; simp [oneV, tokV, results, Tryz.results44, go_sem, z0, z1, z2, z3]) rfl ⟨rfl, HOZ.out⟩
      · have t2 : decide ((s[k].toNat : Int) = 34) = false := decide_eq_false c1
        by_cases c2 : (s[k].toNat : Int) = 10
        · have t3 : decide ((s[k].toNat : Int) = 10) = true := decide_eq_true c2
          go_wp2_with ((refine wpList_store_box (o := ⟨none, _, _, _, _, _⟩) rfl 50 (.tmp 2) (.tmp 33) (by rfl) b0 [.int .u8 0, .string ⟨#[]⟩, .int .i64 0, .int .i64 0] [.int .u8 0, .string ⟨#[]⟩, .int .i64 0, .int .i64 0] (by rfl) (by rfl) HBX2.out (by rfl) (by kernel_rfl) (by intro u hu; simp at hu; rcases hu with rfl | rfl | rfl | rfl <;> rfl) ?_; intro w9 k1 k2))
          obtain ⟨z0, z1, z2, z3⟩ := box4 k1
          have hoW : Only (fun _ => False) w w9 := HO2.out.trans' k2 (fun q hq e => by have := HB0.out; omega)
          have HOZ := Lib.hid hoW; clear hoW k2
          go_wp2_with fail
          have e : P = .bad k 4 := by rw [← TC.out, txtP_n _ _ _ (by omega)]
          exact bodyPost_ret (v := oneV P) (by rw [e]; simp [oneV, tokV, results, Tryz.results44, go_sem, z0, z1, z2, z3]) rfl ⟨rfl, HOZ.out⟩
        · have t3 : decide ((s[k].toNat : Int) = 10) = false := decide_eq_false c2
          by_cases c3 : (s[k].toNat : Int) = 92
          · have t4 : decide ((s[k].toNat : Int) = 92) = true := decide_eq_true c3
            by_cases hl2 : k + 1 < s.size
            · have t5 : decide ((k : Int) + 1 < (s.size : Int)) = true := decide_eq_true (by omega)
              have IX := Lib.hid (index_any ⟨#[34, 92, 47, 110, 116]⟩ (s[k + 1].toNat : Int) wr)
              rw [toNat_u8] at IX
              have e0 : (⟨#[34, 92, 47, 110, 116]⟩ : ByteArray).data.toList = [34, 92, 47, 110, 116] := rfl
              rw [e0] at IX; clear e0
              have tc := TC.out
              rw [drop_get s (k + 1) hl2, txtP_e _ _ _ _ (by omega)] at tc
              rcases esc_ix s[k + 1] with ⟨j1, j2⟩ | ⟨j1, j2, j3⟩
              · rw [j1] at IX; rw [j2] at tc
                have TD := Lib.hid tc; clear tc j1 j2
                go_wp2_with fail
                refine IX.out.mono ?_
                rintro e w2 ⟨rfl, rfl⟩
                go_wp2_with ((refine wpList_store_box (o := ⟨none, _, _, _, _, _⟩) rfl 50 (.tmp 2) (.tmp 49) (by rfl) b0 [.int .u8 0, .string ⟨#[]⟩, .int .i64 0, .int .i64 0] [.int .u8 0, .string ⟨#[]⟩, .int .i64 0, .int .i64 0] (by rfl) (by rfl) HBX2.out (by rfl) (by kernel_rfl) (by intro u hu; simp at hu; rcases hu with rfl | rfl | rfl | rfl <;> rfl) ?_; intro w9 k1 k2))
                obtain ⟨z0, z1, z2, z3⟩ := box4 k1
                have hoW : Only (fun _ => False) w w9 := HO2.out.trans' k2 (fun q hq e => by have := HB0.out; omega)
                have HOZ := Lib.hid hoW; clear hoW k2
                go_wp2_with fail
                have e : P = .bad (k + 1) 4 := by rw [← TD.out]
                exact bodyPost_ret (v := oneV P) (by rw [e]; simp [oneV, tokV, results, Tryz.results44, go_sem, z0, z1, z2, z3]) rfl ⟨rfl, HOZ.out⟩
              · obtain ⟨j, hj⟩ : ∃ j : Nat, Lib.indexByte [34, 92, 47, 110, 116] s[k + 1] = j := ⟨(Lib.indexByte [34, 92, 47, 110, 116] s[k + 1]).toNat, by omega⟩
                rw [hj] at j1 j2 j3 IX
                have hj5 : j < 5 := by omega
                obtain ⟨x, hx⟩ : ∃ x, ([34, 92, 47, 10, 9] : List UInt8)[j]? = some x := ⟨_, List.getElem?_eq_getElem (by simpa using hj5)⟩
                rw [show ((j : Int)).toNat = j from rfl, hx] at j3
                rw [j3] at tc
                have TD := Lib.hid tc; have HX := Lib.hid hx; clear tc j1 j2 j3 hj hx
                have WB := Lib.hid (writeByte_any (b0 + 1) (b0 + 1) (Lib.byteCells acc) (x.toNat : Int) wr IB.out (by rw [Lib.byteCells_length]; omega) HSR.out)
                rw [cells_snoc] at WB
                have hxe : (⟨#[34, 92, 47, 10, 9]⟩ : ByteArray)[j]'hj5 = x := by
                  have := HX.out
                  rw [List.getElem?_eq_getElem (by simpa using hj5)] at this
                  exact Option.some.inj this
                have HXE := Lib.hid hxe; clear hxe
                go_wp2_with fail
                refine IX.out.mono ?_
                rintro e w2 ⟨rfl, rfl⟩
                go_wp2_with fail
                rw [HXE.out]
                refine WB.out.mono ?_
                rintro e w3 ⟨rfl, IB2, B2⟩
                have HI2 := Lib.hid IB2; have HB2 := Lib.hid B2; clear IB2 B2
                go_wp2_with fail
                go_roundw
                case rel => exact ⟨k + 2, acc ++ [x], by simp; omega, by omega, by simp; omega, Lib.hid (.inr HI2.out), Lib.hid (BW.out.trans HB2.out), TD⟩
                case measure => simp [intOf]; omega
            · have t5 : decide ((k : Int) + 1 < (s.size : Int)) = false := decide_eq_false (by omega)
              go_wp2_with ((refine wpList_store_box (o := ⟨none, _, _, _, _, _⟩) rfl 50 (.tmp 2) (.tmp 49) (by rfl) b0 [.int .u8 0, .string ⟨#[]⟩, .int .i64 0, .int .i64 0] [.int .u8 0, .string ⟨#[]⟩, .int .i64 0, .int .i64 0] (by rfl) (by rfl) HBX2.out (by rfl) (by kernel_rfl) (by intro u hu; simp at hu; rcases hu with rfl | rfl | rfl | rfl <;> rfl) ?_; intro w9 k1 k2))
              obtain ⟨z0, z1, z2, z3⟩ := box4 k1
              have hoW : Only (fun _ => False) w w9 := HO2.out.trans' k2 (fun q hq e => by have := HB0.out; omega)
              have HOZ := Lib.hid hoW; clear hoW k2
              go_wp2_with fail
              have e : P = .bad (k + 1) 4 := by rw [← TC.out, drop_all s (k + 1) (by omega), txtP_e0 _ _ (by omega)]
              exact bodyPost_ret (v := oneV P) (by rw [e]; simp [oneV, tokV, results, Tryz.results44, go_sem, z0, z1, z2, z3]) rfl ⟨rfl, HOZ.out⟩
          · have t4 : decide ((s[k].toNat : Int) = 92) = false := decide_eq_false c3
            have WB := Lib.hid (writeByte_any (b0 + 1) (b0 + 1) (Lib.byteCells acc) (s[k].toNat : Int) wr IB.out (by rw [Lib.byteCells_length]; omega) HSR.out)
            rw [cells_snoc] at WB
            go_wp2_with fail
            refine WB.out.mono ?_
            rintro e w2 ⟨rfl, IB2, B2⟩
            have HI2 := Lib.hid IB2; have HB2 := Lib.hid B2; clear IB2 B2
            go_wp2_with fail
            go_roundw
            case rel =>
              refine ⟨k + 1, acc ++ [s[k]], by simp, by omega, by simp; omega, Lib.hid (.inr HI2.out), Lib.hid (BW.out.trans HB2.out), Lib.hid ?_⟩
              rw [← TC.out, txtP_o _ _ _ (by omega) (by omega) (by omega)]
            case measure => simp [intOf]; omega
    · have t1 : decide ((k : Int) < (s.size : Int)) = false := decide_eq_false (by omega)
      have hke : k = s.size := by omega
      subst hke
      go_wp2_with ((refine wpList_store_box (o := ⟨none, _, _, _, _, _⟩) rfl 50 (.tmp 2) (.tmp 54) (by rfl) b0 [.int .u8 0, .string ⟨#[]⟩, .int .i64 0, .int .i64 0] [.int .u8 0, .string ⟨#[]⟩, .int .i64 0, .int .i64 0] (by rfl) (by rfl) HBX2.out (by rfl) (by kernel_rfl) (by intro u hu; simp at hu; rcases hu with rfl | rfl | rfl | rfl <;> rfl) ?_; intro w9 k1 k2))
      obtain ⟨z0, z1, z2, z3⟩ := box4 k1
      have hoW : Only (fun _ => False) w w9 := HO2.out.trans' k2 (fun q hq e => by have := HB0.out; omega)
      have HOZ := Lib.hid hoW; clear hoW k2
      go_wp2_with fail
      have e : P = .bad s.size 4 := by rw [← TP.out, drop_all s s.size (Nat.le_refl _), txtP_nil]
      exact bodyPost_ret (v := oneV P) (by rw [e]; simp [oneV, tokV, results, Tryz.results44, go_sem, z0, z1, z2, z3]) rfl ⟨rfl, HOZ.out⟩
end Go.Proofs.YtgephneppgcnlaaGreatDoor
