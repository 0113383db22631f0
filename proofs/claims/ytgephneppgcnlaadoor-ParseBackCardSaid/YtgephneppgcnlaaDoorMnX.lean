/- parse.many at api.Arg: things between two signs. parse.many at api.Selection: things between two signs. parse.many at api.VarDef: things between two signs. -/
import Derived.Test.YtgephneppgcnlaaDoorEnD
import Derived.Test.YtgephneppgcnlaaDoorPvh
namespace Go.Proofs.YtgephneppgcnlaaDoor
open Go Go.RowKit
set_option linter.unusedVariables false
set_option linter.unusedSimpArgs false

theorem infoA : (Tryd.prog.info? 134).map (fun i => (i.zero, i.size, i.bytes)) = some (some (.agg #[.string ByteArray.empty, .int .u8 0, .int .i64 0, .string ByteArray.empty, .slice none 0 0, .slice none 0 0]), 6, 96) := by kernel_rfl
/-- Ahead of a round. -/
def MAInv (w : World) (b : Nat) (all : List Tok) (dp : Int) (p : List Tok → PR AR) (c : List UInt8) (R : PR (List AR)) (v9 : Value) (more : Bool) (wr : World) : Prop :=
  ∃ (acc : List AR) (rest : List Tok), OwnRow wr w.heap.size 134 6 v9 (acc.map argC) ∧ RdP wr b all rest dp ∧ Only (fun k => k = b) w wr ∧ acc.length + rest.length ≤ 1000000 ∧
    (more = true → ∃ n, rest.length < n ∧ manyP p c n acc rest = R) ∧ (more = false → R = .ok acc rest)
set_option maxRecDepth 100000 in
set_option maxHeartbeats 40000000 in
theorem manyA_any (p : List Tok → PR AR) (hp : Takes p) (b X : Nat) (all r : List Tok) (dp : Int) (o c : List UInt8) (w : World) (h : RdP w b all r dp)
    (HF : ∀ wx r', Only (fun k => k = b) w wx → RdP wx b all r' dp → Calls Tryd.prog 99 #[.pointer (some ⟨X, 0, none⟩)] wx (Ans wx b all dp (aggP wx.heap.size argC) (p r'))) :
    Calls Tryd.prog 98 #[.pointer (some ⟨b, 0, none⟩), .string ⟨o.toArray⟩, .string ⟨c.toArray⟩, .func (.func 99) #[] #[.pointer (some ⟨X, 0, none⟩)]] w (Ans w b all dp (rowP w.heap.size 6 argC) ((wantP o r).bind fun _ r1 => manyP p c (r1.length + 1) [] r1)) := by
  have hbl := h.lt
  have J := Lib.hid (want_any b all r dp o w h)
  have HFH := Lib.hid HF
  clear HF
  cases hq : wantP o r with
  | bad a e =>
    rw [hq] at J
    have HP : ∀ w2 r'' dp', RdP w2 b all r'' dp' → atT r'' = a → dp ≤ dp' → dp' ≤ dp + 1 → Only (fun k => k = b) w w2 → Ans w b all dp (rowP w.heap.size 6 argC) ((PR.bad a e : PR Unit).bind fun _ r1 => manyP p c (r1.length + 1) [] r1) (.panicked (faultV e)) w2 := fun w2 r'' dp' h1 h2 h3 h4 h5 => ⟨rfl, ⟨r'', dp', h1, h2, h3, h4⟩, h5⟩
    have HPP := Lib.hid HP; clear HP hq h
    generalize (Ans w b all dp (rowP w.heap.size 6 argC) ((PR.bad a e : PR Unit).bind fun _ r1 => manyP p c (r1.length + 1) [] r1)) = Q at *
    go_enter Tryd.func98, Tryd.ntmps98
    go_wp2_with fail
    refine J.out.mono ?_
    rintro ee w2 ⟨rfl, ⟨r'', dp', h1, h2, h3, h4⟩, h5⟩
    exact ⟨rfl, HPP.out _ _ _ h1 h2 h3 h4 h5⟩
  | ok u r1 =>
    rw [hq] at J
    obtain ⟨R, hR⟩ : ∃ R, manyP p c (r1.length + 1) [] r1 = R := ⟨_, rfl⟩
    show Calls Tryd.prog _ _ w (Ans w b all dp (rowP w.heap.size 6 argC) (manyP p c (r1.length + 1) [] r1))
    rw [hR]
    obtain ⟨Q, hQ⟩ : ∃ Q, Ans w b all dp (rowP w.heap.size 6 argC) R = Q := ⟨_, rfl⟩
    rw [hQ]
    have fb : ∀ a e w' r'' dp', R = .bad a e → RdP w' b all r'' dp' → atT r'' = a → dp ≤ dp' → dp' ≤ dp + 1 → Only (fun k => k = b) w w' → Q (.panicked (faultV e)) w' := fun a e w' r'' dp' he h1 h2 h3 h4 h5 => by
      rw [← hQ, he]; exact ⟨rfl, ⟨r'', dp', h1, h2, h3, h4⟩, h5⟩
    have fo : ∀ xs rz w' v, R = .ok xs rz → OwnRow w' w.heap.size 134 6 v (xs.map argC) → RdP w' b all rz dp → Only (fun k => k = b) w w' → Q (.returned v) w' := fun xs rz w' v he h1 h2 h3 => by
      rw [← hQ, he]; exact ⟨v, rfl, h1.cell, h2, h3⟩
    have FB := Lib.hid fb; have FO := Lib.hid fo; have HR := Lib.hid hR; have HTK := Lib.hid hp
    clear fb fo hR hQ hq h hp
    go_enter Tryd.func98, Tryd.ntmps98
    go_wp2_with fail
    refine J.out.mono ?_
    rintro e w1 ⟨v, rfl, hv, h1, o1⟩
    have hv : v = .tuple #[] := hv
    subst hv
    have hi : MAInv w b all dp p c R (.slice none 0 0) true w1 := ⟨[], r1, OwnRow.nil _ _ _ _, h1, o1, by have h3 := h1.pos; have h2 := h1.few; simp only [List.length_nil]; omega, fun _ => ⟨r1.length + 1, by omega, HR.out⟩, fun h => by cases h⟩
    have HI := Lib.hid hi; clear hi h1 o1 J HR
    go_wp2_with fail
    go_loopw [9, 10] (fun v9 v10 wr => ∃ more : Bool, v10 = .bool more ∧ Hid (MAInv w b all dp p c R v9 more wr)) (fun _ _ wr => all.length - posOf wr b)
    case atStart => exact ⟨true, rfl, HI⟩
    case round =>
      obtain ⟨more, rfl, hrel⟩ := hrel
      obtain ⟨acc, rest, hown, hrd, hon, hfew, hyes, hno⟩ := hrel.out
      obtain ⟨aL, cL, eL, fL1, fL2, fL3⟩ := hown.form
      rw [List.length_map] at eL fL1
      subst eL
      have hbz := hbl
      cases more with
      | false =>
        have HOW := Lib.hid hown; have HRD := Lib.hid hrd; have HON := Lib.hid hon; have HNO := Lib.hid (hno rfl)
        have HEND := Lib.hid (FO.out _ _ _ _ HNO.out HOW.out HRD.out HON.out)
        clear hown hrd hon hfew hyes hno hrel HI fL2 fL3
        go_wp2_with fail
        first
          | exact HEND.out
          | (go_ret; exact HEND.out)
      | true =>
        obtain ⟨n, hn, heq⟩ := hyes rfl
        obtain ⟨n, rfl⟩ : ∃ m, n = m + 1 := ⟨n - 1, by omega⟩
        rw [manyP] at heq
        have hpos := hrd.pos
        have J := Lib.hid (HFH.out wr rest hon hrd)
        have HOW := Lib.hid hown; have HON := Lib.hid hon; have HN := Lib.hid hn; have HEQ := Lib.hid heq; have HPOS := Lib.hid hpos; have HFEW := Lib.hid hfew; have HFL := Lib.hid fL3
        have hgl := hon.size
        have HGL := Lib.hid hgl
        clear hown hrd hon hfew hyes hno hrel HI fL2 fL3 hn heq hpos hgl
        cases hq : p rest with
        | bad a e =>
          rw [hq] at J
          have hf : R = .bad a e := HEQ.out.symm.trans (bind_bad hq)
          have HE := Lib.hid hf; clear hf hq
          go_wp2_with fail
          refine J.out.mono ?_
          rintro ee w2 ⟨rfl, ⟨r'', dp', h1, h2, h3, h4⟩, h5⟩
          exact ⟨rfl, FB.out _ _ _ _ _ HE.out h1 h2 h3 h4 (HON.out.trans h5)⟩
        | ok x r2 =>
          rw [hq] at J
          have hlt := HTK.out rest x r2 hq
          have hnew := (bind_ok hq).symm.trans HEQ.out
          have HLT := Lib.hid hlt; have HNEW := Lib.hid hnew; clear hq hlt hnew HEQ
          go_wp2_with fail
          refine J.out.mono ?_
          rintro ee w2 ⟨v, rfl, ⟨cs, rfl, hcs⟩, h2, o2⟩
          obtain ⟨s0, k1, n1, s2, a1, l1, e1, a2, l2, e2, rfl⟩ := argC_form2 hcs
          have hg := heap_new w2 (.cells #[.string ⟨s0.toArray⟩, .int .u8 (k1 : Int), .int .i64 n1, .string ⟨s2.toArray⟩, .slice a1 l1 e1, .slice a2 l2 e2] 134)
          have hg2 : w2.heap.size = (w2.alloc (.cells #[.string ⟨s0.toArray⟩, .int .u8 (k1 : Int), .int .i64 n1, .string ⟨s2.toArray⟩, .slice a1 l1 e1, .slice a2 l2 e2] 134)).heap.size - 1 := by simp
          have on := (Only.refl (fun _ => False) w2).alloc (.cells #[.string ⟨s0.toArray⟩, .int .u8 (k1 : Int), .int .i64 n1, .string ⟨s2.toArray⟩, .slice a1 l1 e1, .slice a2 l2 e2] 134)
          have hs2 : wr.heap.size ≤ w2.heap.size := o2.size
          obtain ⟨xs, p1, p2⟩ := (HOW.out.only o2 (fun k h1 h2 e => by have := HGL.out; omega)).only on (fun _ _ _ h => h)
          have hcs2 := CellsAt.only on (fun _ _ h => h) _ _ hcs
          have h3 := h2.still on
          have ho3 := (HON.out.trans o2).trans' on (fun _ _ h => h.elim)
          obtain ⟨G, hG⟩ : ∃ G, w2.heap.size = G := ⟨_, rfl⟩
          rw [hG] at hg hs2 hg2
          obtain ⟨w3, hw3⟩ : ∃ w3, w2.alloc (.cells #[.string ⟨s0.toArray⟩, .int .u8 (k1 : Int), .int .i64 n1, .string ⟨s2.toArray⟩, .slice a1 l1 e1, .slice a2 l2 e2] 134) = w3 := ⟨_, rfl⟩
          rw [hw3] at hg on p1 p2 hcs2 h3 ho3 hg2
          have hys : ∀ j u, ([.string ⟨s0.toArray⟩, .int .u8 (k1 : Int), .int .i64 n1, .string ⟨s2.toArray⟩, .slice a1 l1 e1, .slice a2 l2 e2] : List Value)[j]? = some u → w3.cell? ((⟨G, 0, none⟩ : Addr).add j) = some u := fun j u hu => by rw [addr_add]; exact range_of_block hg j u hu
          have hone : ∀ u ∈ ([.string ⟨s0.toArray⟩, .int .u8 (k1 : Int), .int .i64 n1, .string ⟨s2.toArray⟩, .slice a1 l1 e1, .slice a2 l2 e2] : List Value), u.oneCell' = true := CellsAt.one hcs
          rw [List.length_map] at p1
          have HP1 := Lib.hid p1; have HP2 := Lib.hid p2; have HYS := Lib.hid hys; have HONE := Lib.hid hone; have HCS := Lib.hid hcs2; have H3 := Lib.hid h3; have HO3 := Lib.hid ho3; have HG := Lib.hid hG; have HW3 := Lib.hid hw3; have HS2 := Lib.hid hs2; have HG2 := Lib.hid hg2
          clear p1 p2 hys hone hcs2 h3 ho3 hG hw3 hs2 hg2 hg on hcs h2 o2 J HOW
          go_wp2_with ((rw [HG.out, HW3.out]; refine wpList_append_own2 (o := ⟨some 23, _, _, _, _, _⟩) rfl (.tmp 19) (.tmp 22) 48 134 (by rfl) Tryd.underlying48 infoA rfl (by decide) w.heap.size (.slice aL acc.length cL) acc.length 1 1 xs [.string ⟨s0.toArray⟩, .int .u8 (k1 : Int), .int .i64 n1, .string ⟨s2.toArray⟩, .slice a1 l1 e1, .slice a2 l2 e2] ⟨G, 0, none⟩ (by rfl) (by rfl) HP1.out (by rfl) HYS.out HONE.out (by have := HFEW.out; unfold maxLen; omega) (by have := HFEW.out; omega) (by have := HG2.out; have := HS2.out; have := HGL.out; omega) ?_; intro v' w9 q1 q2 q3))
          have hfl2 := HFL.out
          have hv8 : CellsAt w3 (fun q => w.heap.size ≤ q ∧ (Value.slice aL acc.length cL).ownBlock ≠ some q ∧ q < w3.heap.size) (argC x) [.string ⟨s0.toArray⟩, .int .u8 (k1 : Int), .int .i64 n1, .string ⟨s2.toArray⟩, .slice a1 l1 e1, .slice a2 l2 e2] := CellsAt.weaken (fun q hq h => by have h : wr.heap.size ≤ q := h; have := HGL.out; exact ⟨by omega, fun hv => (by have := (hfl2 q hv).2; omega), hq⟩) _ _ HCS.out
          have hp1 := HP1.out; have hp2 := HP2.out
          have hrow := OwnRow.append (rs := acc.map argC) (r := argC x) (by rw [List.length_map]; exact hp1) hp2 rfl hv8 (by rw [List.length_map]; exact q1) q2 q3
          obtain ⟨aL', cL', eL', gL1, gL2, gL3⟩ := hrow.form
          rw [List.length_append, List.length_map, List.length_singleton] at eL' gL1
          subst eL'
          have hqo : Only (fun k => k = b) w w9 := HO3.out.trans' q2 (fun q hq h => by have := (hfl2 q h).1; omega)
          have h9 := H3.out.only q2 (fun k hk h => by have := (hfl2 k h).1; omega)
          have T := Lib.hid (take_any b all r2 dp c w9 h9)
          unfold tookP at T
          have hpos9 := h9.pos
          have HRW := Lib.hid hrow; have HQO := Lib.hid hqo; have HP9 := Lib.hid hpos9
          clear hrow hqo h9 hpos9 q1 q2 q3 gL2 gL3 gL1 hp1 hp2 hv8 hfl2 HP1 HP2 HYS HONE HCS HFL
          cases hb : isT c r2 with
          | true =>
            rw [hb] at T HNEW
            have hdone : R = .ok (acc ++ [x]) r2.tail := by have := HNEW.out; rw [if_pos rfl] at this; exact this.symm
            have htl := isT_len hb
            have HDONE := Lib.hid hdone; have HTL := Lib.hid htl; clear hdone hb htl HNEW
            go_wp2_with fail
            refine T.out.mono ?_
            rintro e w10 ⟨rfl, h10, o10⟩
            have h10 : RdP w10 b all r2.tail dp := by simpa using h10
            have hpos10 := h10.pos
            have hi : MAInv w b all dp p c R (.slice aL' (acc.length + 1) cL') false w10 := ⟨acc ++ [x], r2.tail, by rw [List.map_append, List.map_singleton]; exact HRW.out.only o10 (fun k h1 h2 e => by omega), h10, HQO.out.trans o10, by have h1 := HFEW.out; have h2 := HLT.out; have h3 := HTL.out; rw [List.length_append, List.length_singleton]; omega, (fun h => by cases h), fun _ => HDONE.out⟩
            have HI2 := Lib.hid hi; have HPX := Lib.hid hpos10
            clear hi h10 o10 hpos10 HDONE T
            go_wp2_with fail
            go_roundw
            case rel => first | exact ⟨false, rfl, HI2⟩ | ((repeat apply Exists.intro); refine ⟨?_, rfl⟩; exact ⟨false, rfl, HI2⟩)
            case measure => have h1 := HPOS.out; have h2 := HPX.out; have h3 := HLT.out; have h4 := HTL.out; omega
          | false =>
            rw [hb] at T HNEW
            have hgo : manyP p c n (acc ++ [x]) r2 = R := by have := HNEW.out; rw [if_neg (by decide)] at this; exact this
            have HGO := Lib.hid hgo; clear hgo hb HNEW
            go_wp2_with fail
            refine T.out.mono ?_
            rintro e w10 ⟨rfl, h10, o10⟩
            have h10 : RdP w10 b all r2 dp := by simpa using h10
            have hpos10 := h10.pos
            have hi : MAInv w b all dp p c R (.slice aL' (acc.length + 1) cL') true w10 := ⟨acc ++ [x], r2, by rw [List.map_append, List.map_singleton]; exact HRW.out.only o10 (fun k h1 h2 e => by omega), h10, HQO.out.trans o10, by have h1 := HFEW.out; have h2 := HLT.out; rw [List.length_append, List.length_singleton]; omega, fun _ => ⟨n, by have h1 := HN.out; have h2 := HLT.out; omega, HGO.out⟩, fun h => by cases h⟩
            have HI2 := Lib.hid hi; have HPX := Lib.hid hpos10
            clear hi h10 o10 hpos10 HGO T
            go_wp2_with fail
            go_roundw
            case rel => first | exact ⟨true, rfl, HI2⟩ | ((repeat apply Exists.intro); refine ⟨?_, rfl⟩; exact ⟨true, rfl, HI2⟩)
            case measure => have h1 := HPOS.out; have h2 := HPX.out; have h3 := HLT.out; omega
end Go.Proofs.YtgephneppgcnlaaDoor
namespace Go.Proofs.YtgephneppgcnlaaDoor
open Go Go.RowKit
set_option linter.unusedVariables false
set_option linter.unusedSimpArgs false

theorem infoS : (Tryd.prog.info? 51).map (fun i => (i.zero, i.size, i.bytes)) = some (some (.agg #[.int .u8 0, .string ByteArray.empty, .string ByteArray.empty, .string ByteArray.empty, .slice none 0 0, .slice none 0 0, .slice none 0 0]), 7, 128) := by kernel_rfl
/-- Ahead of a round. -/
def MSInv (w : World) (b : Nat) (all : List Tok) (dp : Int) (p : List Tok → PR SL) (c : List UInt8) (R : PR (List SL)) (v9 : Value) (more : Bool) (wr : World) : Prop :=
  ∃ (acc : List SL) (rest : List Tok), OwnRow wr w.heap.size 51 7 v9 (acc.map selC) ∧ RdP wr b all rest dp ∧ Only (fun k => k = b) w wr ∧ acc.length + rest.length ≤ 1000000 ∧
    (more = true → ∃ n, rest.length < n ∧ manyP p c n acc rest = R) ∧ (more = false → R = .ok acc rest)
set_option maxRecDepth 100000 in
set_option maxHeartbeats 40000000 in
theorem manyS_any (p : List Tok → PR SL) (hp : Takes p) (b : Nat) (all r : List Tok) (dp : Int) (o c : List UInt8) (w : World) (h : RdP w b all r dp)
    (HF : ∀ wx r', Only (fun k => k = b) w wx → RdP wx b all r' dp → Calls Tryd.prog 49 #[.pointer (some ⟨b, 0, none⟩)] wx (Ans wx b all dp (aggP wx.heap.size selC) (p r'))) :
    Calls Tryd.prog 48 #[.pointer (some ⟨b, 0, none⟩), .string ⟨o.toArray⟩, .string ⟨c.toArray⟩, .func (.func 49) #[.pointer (some ⟨b, 0, none⟩)] #[]] w (Ans w b all dp (rowP w.heap.size 7 selC) ((wantP o r).bind fun _ r1 => manyP p c (r1.length + 1) [] r1)) := by
  have hbl := h.lt
  have J := Lib.hid (want_any b all r dp o w h)
  have HFH := Lib.hid HF
  clear HF
  cases hq : wantP o r with
  | bad a e =>
    rw [hq] at J
    have HP : ∀ w2 r'' dp', RdP w2 b all r'' dp' → atT r'' = a → dp ≤ dp' → dp' ≤ dp + 1 → Only (fun k => k = b) w w2 → Ans w b all dp (rowP w.heap.size 7 selC) ((PR.bad a e : PR Unit).bind fun _ r1 => manyP p c (r1.length + 1) [] r1) (.panicked (faultV e)) w2 := fun w2 r'' dp' h1 h2 h3 h4 h5 => ⟨rfl, ⟨r'', dp', h1, h2, h3, h4⟩, h5⟩
    have HPP := Lib.hid HP; clear HP hq h
    generalize (Ans w b all dp (rowP w.heap.size 7 selC) ((PR.bad a e : PR Unit).bind fun _ r1 => manyP p c (r1.length + 1) [] r1)) = Q at *
    go_enter Tryd.func48, Tryd.ntmps48
    go_wp2_with fail
    refine J.out.mono ?_
    rintro ee w2 ⟨rfl, ⟨r'', dp', h1, h2, h3, h4⟩, h5⟩
    exact ⟨rfl, HPP.out _ _ _ h1 h2 h3 h4 h5⟩
  | ok u r1 =>
    rw [hq] at J
    obtain ⟨R, hR⟩ : ∃ R, manyP p c (r1.length + 1) [] r1 = R := ⟨_, rfl⟩
    show Calls Tryd.prog _ _ w (Ans w b all dp (rowP w.heap.size 7 selC) (manyP p c (r1.length + 1) [] r1))
    rw [hR]
    obtain ⟨Q, hQ⟩ : ∃ Q, Ans w b all dp (rowP w.heap.size 7 selC) R = Q := ⟨_, rfl⟩
    rw [hQ]
    have fb : ∀ a e w' r'' dp', R = .bad a e → RdP w' b all r'' dp' → atT r'' = a → dp ≤ dp' → dp' ≤ dp + 1 → Only (fun k => k = b) w w' → Q (.panicked (faultV e)) w' := fun a e w' r'' dp' he h1 h2 h3 h4 h5 => by
      rw [← hQ, he]; exact ⟨rfl, ⟨r'', dp', h1, h2, h3, h4⟩, h5⟩
    have fo : ∀ xs rz w' v, R = .ok xs rz → OwnRow w' w.heap.size 51 7 v (xs.map selC) → RdP w' b all rz dp → Only (fun k => k = b) w w' → Q (.returned v) w' := fun xs rz w' v he h1 h2 h3 => by
      rw [← hQ, he]; exact ⟨v, rfl, h1.cell, h2, h3⟩
    have FB := Lib.hid fb; have FO := Lib.hid fo; have HR := Lib.hid hR; have HTK := Lib.hid hp
    clear fb fo hR hQ hq h hp
    go_enter Tryd.func48, Tryd.ntmps48
    go_wp2_with fail
    refine J.out.mono ?_
    rintro e w1 ⟨v, rfl, hv, h1, o1⟩
    have hv : v = .tuple #[] := hv
    subst hv
    have hi : MSInv w b all dp p c R (.slice none 0 0) true w1 := ⟨[], r1, OwnRow.nil _ _ _ _, h1, o1, by have h3 := h1.pos; have h2 := h1.few; simp only [List.length_nil]; omega, fun _ => ⟨r1.length + 1, by omega, HR.out⟩, fun h => by cases h⟩
    have HI := Lib.hid hi; clear hi h1 o1 J HR
    go_wp2_with fail
    go_loopw [9, 10] (fun v9 v10 wr => ∃ more : Bool, v10 = .bool more ∧ Hid (MSInv w b all dp p c R v9 more wr)) (fun _ _ wr => all.length - posOf wr b)
    case atStart => exact ⟨true, rfl, HI⟩
    case round =>
      obtain ⟨more, rfl, hrel⟩ := hrel
      obtain ⟨acc, rest, hown, hrd, hon, hfew, hyes, hno⟩ := hrel.out
      obtain ⟨aL, cL, eL, fL1, fL2, fL3⟩ := hown.form
      rw [List.length_map] at eL fL1
      subst eL
      have hbz := hbl
      cases more with
      | false =>
        have HOW := Lib.hid hown; have HRD := Lib.hid hrd; have HON := Lib.hid hon; have HNO := Lib.hid (hno rfl)
        have HEND := Lib.hid (FO.out _ _ _ _ HNO.out HOW.out HRD.out HON.out)
        clear hown hrd hon hfew hyes hno hrel HI fL2 fL3
        go_wp2_with fail
        first
          | exact HEND.out
          | (go_ret; exact HEND.out)
      | true =>
        obtain ⟨n, hn, heq⟩ := hyes rfl
        obtain ⟨n, rfl⟩ : ∃ m, n = m + 1 := ⟨n - 1, by omega⟩
        rw [manyP] at heq
        have hpos := hrd.pos
        have J := Lib.hid (HFH.out wr rest hon hrd)
        have HOW := Lib.hid hown; have HON := Lib.hid hon; have HN := Lib.hid hn; have HEQ := Lib.hid heq; have HPOS := Lib.hid hpos; have HFEW := Lib.hid hfew; have HFL := Lib.hid fL3
        have hgl := hon.size
        have HGL := Lib.hid hgl
        clear hown hrd hon hfew hyes hno hrel HI fL2 fL3 hn heq hpos hgl
        cases hq : p rest with
        | bad a e =>
          rw [hq] at J
          have hf : R = .bad a e := HEQ.out.symm.trans (bind_bad hq)
          have HE := Lib.hid hf; clear hf hq
          go_wp2_with fail
          refine J.out.mono ?_
          rintro ee w2 ⟨rfl, ⟨r'', dp', h1, h2, h3, h4⟩, h5⟩
          exact ⟨rfl, FB.out _ _ _ _ _ HE.out h1 h2 h3 h4 (HON.out.trans h5)⟩
        | ok x r2 =>
          rw [hq] at J
          have hlt := HTK.out rest x r2 hq
          have hnew := (bind_ok hq).symm.trans HEQ.out
          have HLT := Lib.hid hlt; have HNEW := Lib.hid hnew; clear hq hlt hnew HEQ
          go_wp2_with fail
          refine J.out.mono ?_
          rintro ee w2 ⟨v, rfl, ⟨cs, rfl, hcs⟩, h2, o2⟩
          obtain ⟨k1, s1, s2, s3, a1, l1, e1, a2, l2, e2, a3, l3, e3, rfl⟩ := selC_form2 hcs
          have hg := heap_new w2 (.cells #[.int .u8 (k1 : Int), .string ⟨s1.toArray⟩, .string ⟨s2.toArray⟩, .string ⟨s3.toArray⟩, .slice a1 l1 e1, .slice a2 l2 e2, .slice a3 l3 e3] 51)
          have hg2 : w2.heap.size = (w2.alloc (.cells #[.int .u8 (k1 : Int), .string ⟨s1.toArray⟩, .string ⟨s2.toArray⟩, .string ⟨s3.toArray⟩, .slice a1 l1 e1, .slice a2 l2 e2, .slice a3 l3 e3] 51)).heap.size - 1 := by simp
          have on := (Only.refl (fun _ => False) w2).alloc (.cells #[.int .u8 (k1 : Int), .string ⟨s1.toArray⟩, .string ⟨s2.toArray⟩, .string ⟨s3.toArray⟩, .slice a1 l1 e1, .slice a2 l2 e2, .slice a3 l3 e3] 51)
          have hs2 : wr.heap.size ≤ w2.heap.size := o2.size
          obtain ⟨xs, p1, p2⟩ := (HOW.out.only o2 (fun k h1 h2 e => by have := HGL.out; omega)).only on (fun _ _ _ h => h)
          have hcs2 := CellsAt.only on (fun _ _ h => h) _ _ hcs
          have h3 := h2.still on
          have ho3 := (HON.out.trans o2).trans' on (fun _ _ h => h.elim)
          obtain ⟨G, hG⟩ : ∃ G, w2.heap.size = G := ⟨_, rfl⟩
          rw [hG] at hg hs2 hg2
          obtain ⟨w3, hw3⟩ : ∃ w3, w2.alloc (.cells #[.int .u8 (k1 : Int), .string ⟨s1.toArray⟩, .string ⟨s2.toArray⟩, .string ⟨s3.toArray⟩, .slice a1 l1 e1, .slice a2 l2 e2, .slice a3 l3 e3] 51) = w3 := ⟨_, rfl⟩
          rw [hw3] at hg on p1 p2 hcs2 h3 ho3 hg2
          have hys : ∀ j u, ([.int .u8 (k1 : Int), .string ⟨s1.toArray⟩, .string ⟨s2.toArray⟩, .string ⟨s3.toArray⟩, .slice a1 l1 e1, .slice a2 l2 e2, .slice a3 l3 e3] : List Value)[j]? = some u → w3.cell? ((⟨G, 0, none⟩ : Addr).add j) = some u := fun j u hu => by rw [addr_add]; exact range_of_block hg j u hu
          have hone : ∀ u ∈ ([.int .u8 (k1 : Int), .string ⟨s1.toArray⟩, .string ⟨s2.toArray⟩, .string ⟨s3.toArray⟩, .slice a1 l1 e1, .slice a2 l2 e2, .slice a3 l3 e3] : List Value), u.oneCell' = true := CellsAt.one hcs
          rw [List.length_map] at p1
          have HP1 := Lib.hid p1; have HP2 := Lib.hid p2; have HYS := Lib.hid hys; have HONE := Lib.hid hone; have HCS := Lib.hid hcs2; have H3 := Lib.hid h3; have HO3 := Lib.hid ho3; have HG := Lib.hid hG; have HW3 := Lib.hid hw3; have HS2 := Lib.hid hs2; have HG2 := Lib.hid hg2
          clear p1 p2 hys hone hcs2 h3 ho3 hG hw3 hs2 hg2 hg on hcs h2 o2 J HOW
          go_wp2_with ((rw [HG.out, HW3.out]; refine wpList_append_own2 (o := ⟨some 23, _, _, _, _, _⟩) rfl (.tmp 19) (.tmp 22) 37 51 (by rfl) Tryd.underlying37 infoS rfl (by decide) w.heap.size (.slice aL acc.length cL) acc.length 1 1 xs [.int .u8 (k1 : Int), .string ⟨s1.toArray⟩, .string ⟨s2.toArray⟩, .string ⟨s3.toArray⟩, .slice a1 l1 e1, .slice a2 l2 e2, .slice a3 l3 e3] ⟨G, 0, none⟩ (by rfl) (by rfl) HP1.out (by rfl) HYS.out HONE.out (by have := HFEW.out; unfold maxLen; omega) (by have := HFEW.out; omega) (by have := HG2.out; have := HS2.out; have := HGL.out; omega) ?_; intro v' w9 q1 q2 q3))
          have hfl2 := HFL.out
          have hv8 : CellsAt w3 (fun q => w.heap.size ≤ q ∧ (Value.slice aL acc.length cL).ownBlock ≠ some q ∧ q < w3.heap.size) (selC x) [.int .u8 (k1 : Int), .string ⟨s1.toArray⟩, .string ⟨s2.toArray⟩, .string ⟨s3.toArray⟩, .slice a1 l1 e1, .slice a2 l2 e2, .slice a3 l3 e3] := CellsAt.weaken (fun q hq h => by have h : wr.heap.size ≤ q := h; have := HGL.out; exact ⟨by omega, fun hv => (by have := (hfl2 q hv).2; omega), hq⟩) _ _ HCS.out
          have hp1 := HP1.out; have hp2 := HP2.out
          have hrow := OwnRow.append (rs := acc.map selC) (r := selC x) (by rw [List.length_map]; exact hp1) hp2 rfl hv8 (by rw [List.length_map]; exact q1) q2 q3
          obtain ⟨aL', cL', eL', gL1, gL2, gL3⟩ := hrow.form
          rw [List.length_append, List.length_map, List.length_singleton] at eL' gL1
          subst eL'
          have hqo : Only (fun k => k = b) w w9 := HO3.out.trans' q2 (fun q hq h => by have := (hfl2 q h).1; omega)
          have h9 := H3.out.only q2 (fun k hk h => by have := (hfl2 k h).1; omega)
          have T := Lib.hid (take_any b all r2 dp c w9 h9)
          unfold tookP at T
          have hpos9 := h9.pos
          have HRW := Lib.hid hrow; have HQO := Lib.hid hqo; have HP9 := Lib.hid hpos9
          clear hrow hqo h9 hpos9 q1 q2 q3 gL2 gL3 gL1 hp1 hp2 hv8 hfl2 HP1 HP2 HYS HONE HCS HFL
          cases hb : isT c r2 with
          | true =>
            rw [hb] at T HNEW
            have hdone : R = .ok (acc ++ [x]) r2.tail := by have := HNEW.out; rw [if_pos rfl] at this; exact this.symm
            have htl := isT_len hb
            have HDONE := Lib.hid hdone; have HTL := Lib.hid htl; clear hdone hb htl HNEW
            go_wp2_with fail
            refine T.out.mono ?_
            rintro e w10 ⟨rfl, h10, o10⟩
            have h10 : RdP w10 b all r2.tail dp := by simpa using h10
            have hpos10 := h10.pos
            have hi : MSInv w b all dp p c R (.slice aL' (acc.length + 1) cL') false w10 := ⟨acc ++ [x], r2.tail, by rw [List.map_append, List.map_singleton]; exact HRW.out.only o10 (fun k h1 h2 e => by omega), h10, HQO.out.trans o10, by have h1 := HFEW.out; have h2 := HLT.out; have h3 := HTL.out; rw [List.length_append, List.length_singleton]; omega, (fun h => by cases h), fun _ => HDONE.out⟩
            have HI2 := Lib.hid hi; have HPX := Lib.hid hpos10
            clear hi h10 o10 hpos10 HDONE T
            go_wp2_with fail
            go_roundw
            case rel => first | exact ⟨false, rfl, HI2⟩ | ((repeat apply Exists.intro); refine ⟨?_, rfl⟩; exact ⟨false, rfl, HI2⟩)
            case measure => have h1 := HPOS.out; have h2 := HPX.out; have h3 := HLT.out; have h4 := HTL.out; omega
          | false =>
            rw [hb] at T HNEW
            have hgo : manyP p c n (acc ++ [x]) r2 = R := by have := HNEW.out; rw [if_neg (by decide)] at this; exact this
            have HGO := Lib.hid hgo; clear hgo hb HNEW
            go_wp2_with fail
            refine T.out.mono ?_
            rintro e w10 ⟨rfl, h10, o10⟩
            have h10 : RdP w10 b all r2 dp := by simpa using h10
            have hpos10 := h10.pos
            have hi : MSInv w b all dp p c R (.slice aL' (acc.length + 1) cL') true w10 := ⟨acc ++ [x], r2, by rw [List.map_append, List.map_singleton]; exact HRW.out.only o10 (fun k h1 h2 e => by omega), h10, HQO.out.trans o10, by have h1 := HFEW.out; have h2 := HLT.out; rw [List.length_append, List.length_singleton]; omega, fun _ => ⟨n, by have h1 := HN.out; have h2 := HLT.out; omega, HGO.out⟩, fun h => by cases h⟩
            have HI2 := Lib.hid hi; have HPX := Lib.hid hpos10
            clear hi h10 o10 hpos10 HGO T
            go_wp2_with fail
            go_roundw
            case rel => first | exact ⟨true, rfl, HI2⟩ | ((repeat apply Exists.intro); refine ⟨?_, rfl⟩; exact ⟨true, rfl, HI2⟩)
            case measure => have h1 := HPOS.out; have h2 := HPX.out; have h3 := HLT.out; omega
end Go.Proofs.YtgephneppgcnlaaDoor
namespace Go.Proofs.YtgephneppgcnlaaDoor
open Go Go.RowKit
set_option linter.unusedVariables false
set_option linter.unusedSimpArgs false

theorem infoV : (Tryd.prog.info? 47).map (fun i => (i.zero, i.size, i.bytes)) = some (some (.agg #[.string ByteArray.empty, .string ByteArray.empty, .slice none 0 0, .bool false, .bool false, .int .u8 0, .int .i64 0, .string ByteArray.empty, .slice none 0 0, .slice none 0 0]), 10, 152) := by kernel_rfl
/-- Ahead of a round. -/
def MVInv (w : World) (b : Nat) (all : List Tok) (dp : Int) (p : List Tok → PR VD) (c : List UInt8) (R : PR (List VD)) (v9 : Value) (more : Bool) (wr : World) : Prop :=
  ∃ (acc : List VD) (rest : List Tok), OwnRow wr w.heap.size 47 10 v9 (acc.map vdC) ∧ RdP wr b all rest dp ∧ Only (fun k => k = b) w wr ∧ acc.length + rest.length ≤ 1000000 ∧
    (more = true → ∃ n, rest.length < n ∧ manyP p c n acc rest = R) ∧ (more = false → R = .ok acc rest)
set_option maxRecDepth 100000 in
set_option maxHeartbeats 40000000 in
theorem manyV_any (p : List Tok → PR VD) (hp : Takes p) (b : Nat) (all r : List Tok) (dp : Int) (o c : List UInt8) (w : World) (h : RdP w b all r dp)
    (HF : ∀ wx r', Only (fun k => k = b) w wx → RdP wx b all r' dp → Calls Tryd.prog 55 #[.pointer (some ⟨b, 0, none⟩)] wx (Ans wx b all dp (aggP wx.heap.size vdC) (p r'))) :
    Calls Tryd.prog 54 #[.pointer (some ⟨b, 0, none⟩), .string ⟨o.toArray⟩, .string ⟨c.toArray⟩, .func (.func 55) #[.pointer (some ⟨b, 0, none⟩)] #[]] w (Ans w b all dp (rowP w.heap.size 10 vdC) ((wantP o r).bind fun _ r1 => manyP p c (r1.length + 1) [] r1)) := by
  have hbl := h.lt
  have J := Lib.hid (want_any b all r dp o w h)
  have HFH := Lib.hid HF
  clear HF
  cases hq : wantP o r with
  | bad a e =>
    rw [hq] at J
    have HP : ∀ w2 r'' dp', RdP w2 b all r'' dp' → atT r'' = a → dp ≤ dp' → dp' ≤ dp + 1 → Only (fun k => k = b) w w2 → Ans w b all dp (rowP w.heap.size 10 vdC) ((PR.bad a e : PR Unit).bind fun _ r1 => manyP p c (r1.length + 1) [] r1) (.panicked (faultV e)) w2 := fun w2 r'' dp' h1 h2 h3 h4 h5 => ⟨rfl, ⟨r'', dp', h1, h2, h3, h4⟩, h5⟩
    have HPP := Lib.hid HP; clear HP hq h
    generalize (Ans w b all dp (rowP w.heap.size 10 vdC) ((PR.bad a e : PR Unit).bind fun _ r1 => manyP p c (r1.length + 1) [] r1)) = Q at *
    go_enter Tryd.func54, Tryd.ntmps54
    go_wp2_with fail
    refine J.out.mono ?_
    rintro ee w2 ⟨rfl, ⟨r'', dp', h1, h2, h3, h4⟩, h5⟩
    exact ⟨rfl, HPP.out _ _ _ h1 h2 h3 h4 h5⟩
  | ok u r1 =>
    rw [hq] at J
    obtain ⟨R, hR⟩ : ∃ R, manyP p c (r1.length + 1) [] r1 = R := ⟨_, rfl⟩
    show Calls Tryd.prog _ _ w (Ans w b all dp (rowP w.heap.size 10 vdC) (manyP p c (r1.length + 1) [] r1))
    rw [hR]
    obtain ⟨Q, hQ⟩ : ∃ Q, Ans w b all dp (rowP w.heap.size 10 vdC) R = Q := ⟨_, rfl⟩
    rw [hQ]
    have fb : ∀ a e w' r'' dp', R = .bad a e → RdP w' b all r'' dp' → atT r'' = a → dp ≤ dp' → dp' ≤ dp + 1 → Only (fun k => k = b) w w' → Q (.panicked (faultV e)) w' := fun a e w' r'' dp' he h1 h2 h3 h4 h5 => by
      rw [← hQ, he]; exact ⟨rfl, ⟨r'', dp', h1, h2, h3, h4⟩, h5⟩
    have fo : ∀ xs rz w' v, R = .ok xs rz → OwnRow w' w.heap.size 47 10 v (xs.map vdC) → RdP w' b all rz dp → Only (fun k => k = b) w w' → Q (.returned v) w' := fun xs rz w' v he h1 h2 h3 => by
      rw [← hQ, he]; exact ⟨v, rfl, h1.cell, h2, h3⟩
    have FB := Lib.hid fb; have FO := Lib.hid fo; have HR := Lib.hid hR; have HTK := Lib.hid hp
    clear fb fo hR hQ hq h hp
    go_enter Tryd.func54, Tryd.ntmps54
    go_wp2_with fail
    refine J.out.mono ?_
    rintro e w1 ⟨v, rfl, hv, h1, o1⟩
    have hv : v = .tuple #[] := hv
    subst hv
    have hi : MVInv w b all dp p c R (.slice none 0 0) true w1 := ⟨[], r1, OwnRow.nil _ _ _ _, h1, o1, by have h3 := h1.pos; have h2 := h1.few; simp only [List.length_nil]; omega, fun _ => ⟨r1.length + 1, by omega, HR.out⟩, fun h => by cases h⟩
    have HI := Lib.hid hi; clear hi h1 o1 J HR
    go_wp2_with fail
    go_loopw [9, 10] (fun v9 v10 wr => ∃ more : Bool, v10 = .bool more ∧ Hid (MVInv w b all dp p c R v9 more wr)) (fun _ _ wr => all.length - posOf wr b)
    case atStart => exact ⟨true, rfl, HI⟩
    case round =>
      obtain ⟨more, rfl, hrel⟩ := hrel
      obtain ⟨acc, rest, hown, hrd, hon, hfew, hyes, hno⟩ := hrel.out
      obtain ⟨aL, cL, eL, fL1, fL2, fL3⟩ := hown.form
      rw [List.length_map] at eL fL1
      subst eL
      have hbz := hbl
      cases more with
      | false =>
        have HOW := Lib.hid hown; have HRD := Lib.hid hrd; have HON := Lib.hid hon; have HNO := Lib.hid (hno rfl)
        have HEND := Lib.hid (FO.out _ _ _ _ HNO.out HOW.out HRD.out HON.out)
        clear hown hrd hon hfew hyes hno hrel HI fL2 fL3
        go_wp2_with fail
        first
          | exact HEND.out
          | (go_ret; exact HEND.out)
      | true =>
        obtain ⟨n, hn, heq⟩ := hyes rfl
        obtain ⟨n, rfl⟩ : ∃ m, n = m + 1 := ⟨n - 1, by omega⟩
        rw [manyP] at heq
        have hpos := hrd.pos
        have J := Lib.hid (HFH.out wr rest hon hrd)
        have HOW := Lib.hid hown; have HON := Lib.hid hon; have HN := Lib.hid hn; have HEQ := Lib.hid heq; have HPOS := Lib.hid hpos; have HFEW := Lib.hid hfew; have HFL := Lib.hid fL3
        have hgl := hon.size
        have HGL := Lib.hid hgl
        clear hown hrd hon hfew hyes hno hrel HI fL2 fL3 hn heq hpos hgl
        cases hq : p rest with
        | bad a e =>
          rw [hq] at J
          have hf : R = .bad a e := HEQ.out.symm.trans (bind_bad hq)
          have HE := Lib.hid hf; clear hf hq
          go_wp2_with fail
          refine J.out.mono ?_
          rintro ee w2 ⟨rfl, ⟨r'', dp', h1, h2, h3, h4⟩, h5⟩
          exact ⟨rfl, FB.out _ _ _ _ _ HE.out h1 h2 h3 h4 (HON.out.trans h5)⟩
        | ok x r2 =>
          rw [hq] at J
          have hlt := HTK.out rest x r2 hq
          have hnew := (bind_ok hq).symm.trans HEQ.out
          have HLT := Lib.hid hlt; have HNEW := Lib.hid hnew; clear hq hlt hnew HEQ
          go_wp2_with fail
          refine J.out.mono ?_
          rintro ee w2 ⟨v, rfl, ⟨cs, rfl, hcs⟩, h2, o2⟩
          obtain ⟨s0, s1, a0, l0, e0, b1, b2, k1, n1, s2, a1, l1, e1, a2, l2, e2, rfl⟩ := vdC_form2 hcs
          have hg := heap_new w2 (.cells #[.string ⟨s0.toArray⟩, .string ⟨s1.toArray⟩, .slice a0 l0 e0, .bool b1, .bool b2, .int .u8 (k1 : Int), .int .i64 n1, .string ⟨s2.toArray⟩, .slice a1 l1 e1, .slice a2 l2 e2] 47)
          have hg2 : w2.heap.size = (w2.alloc (.cells #[.string ⟨s0.toArray⟩, .string ⟨s1.toArray⟩, .slice a0 l0 e0, .bool b1, .bool b2, .int .u8 (k1 : Int), .int .i64 n1, .string ⟨s2.toArray⟩, .slice a1 l1 e1, .slice a2 l2 e2] 47)).heap.size - 1 := by simp
          have on := (Only.refl (fun _ => False) w2).alloc (.cells #[.string ⟨s0.toArray⟩, .string ⟨s1.toArray⟩, .slice a0 l0 e0, .bool b1, .bool b2, .int .u8 (k1 : Int), .int .i64 n1, .string ⟨s2.toArray⟩, .slice a1 l1 e1, .slice a2 l2 e2] 47)
          have hs2 : wr.heap.size ≤ w2.heap.size := o2.size
          obtain ⟨xs, p1, p2⟩ := (HOW.out.only o2 (fun k h1 h2 e => by have := HGL.out; omega)).only on (fun _ _ _ h => h)
          have hcs2 := CellsAt.only on (fun _ _ h => h) _ _ hcs
          have h3 := h2.still on
          have ho3 := (HON.out.trans o2).trans' on (fun _ _ h => h.elim)
          obtain ⟨G, hG⟩ : ∃ G, w2.heap.size = G := ⟨_, rfl⟩
          rw [hG] at hg hs2 hg2
          obtain ⟨w3, hw3⟩ : ∃ w3, w2.alloc (.cells #[.string ⟨s0.toArray⟩, .string ⟨s1.toArray⟩, .slice a0 l0 e0, .bool b1, .bool b2, .int .u8 (k1 : Int), .int .i64 n1, .string ⟨s2.toArray⟩, .slice a1 l1 e1, .slice a2 l2 e2] 47) = w3 := ⟨_, rfl⟩
          rw [hw3] at hg on p1 p2 hcs2 h3 ho3 hg2
          have hys : ∀ j u, ([.string ⟨s0.toArray⟩, .string ⟨s1.toArray⟩, .slice a0 l0 e0, .bool b1, .bool b2, .int .u8 (k1 : Int), .int .i64 n1, .string ⟨s2.toArray⟩, .slice a1 l1 e1, .slice a2 l2 e2] : List Value)[j]? = some u → w3.cell? ((⟨G, 0, none⟩ : Addr).add j) = some u := fun j u hu => by rw [addr_add]; exact range_of_block hg j u hu
          have hone : ∀ u ∈ ([.string ⟨s0.toArray⟩, .string ⟨s1.toArray⟩, .slice a0 l0 e0, .bool b1, .bool b2, .int .u8 (k1 : Int), .int .i64 n1, .string ⟨s2.toArray⟩, .slice a1 l1 e1, .slice a2 l2 e2] : List Value), u.oneCell' = true := CellsAt.one hcs
          rw [List.length_map] at p1
          have HP1 := Lib.hid p1; have HP2 := Lib.hid p2; have HYS := Lib.hid hys; have HONE := Lib.hid hone; have HCS := Lib.hid hcs2; have H3 := Lib.hid h3; have HO3 := Lib.hid ho3; have HG := Lib.hid hG; have HW3 := Lib.hid hw3; have HS2 := Lib.hid hs2; have HG2 := Lib.hid hg2
          clear p1 p2 hys hone hcs2 h3 ho3 hG hw3 hs2 hg2 hg on hcs h2 o2 J HOW
          go_wp2_with ((rw [HG.out, HW3.out]; refine wpList_append_own2 (o := ⟨some 23, _, _, _, _, _⟩) rfl (.tmp 19) (.tmp 22) 36 47 (by rfl) Tryd.underlying36 infoV rfl (by decide) w.heap.size (.slice aL acc.length cL) acc.length 1 1 xs [.string ⟨s0.toArray⟩, .string ⟨s1.toArray⟩, .slice a0 l0 e0, .bool b1, .bool b2, .int .u8 (k1 : Int), .int .i64 n1, .string ⟨s2.toArray⟩, .slice a1 l1 e1, .slice a2 l2 e2] ⟨G, 0, none⟩ (by rfl) (by rfl) HP1.out (by rfl) HYS.out HONE.out (by have := HFEW.out; unfold maxLen; omega) (by have := HFEW.out; omega) (by have := HG2.out; have := HS2.out; have := HGL.out; omega) ?_; intro v' w9 q1 q2 q3))
          have hfl2 := HFL.out
          have hv8 : CellsAt w3 (fun q => w.heap.size ≤ q ∧ (Value.slice aL acc.length cL).ownBlock ≠ some q ∧ q < w3.heap.size) (vdC x) [.string ⟨s0.toArray⟩, .string ⟨s1.toArray⟩, .slice a0 l0 e0, .bool b1, .bool b2, .int .u8 (k1 : Int), .int .i64 n1, .string ⟨s2.toArray⟩, .slice a1 l1 e1, .slice a2 l2 e2] := CellsAt.weaken (fun q hq h => by have h : wr.heap.size ≤ q := h; have := HGL.out; exact ⟨by omega, fun hv => (by have := (hfl2 q hv).2; omega), hq⟩) _ _ HCS.out
          have hp1 := HP1.out; have hp2 := HP2.out
          have hrow := OwnRow.append (rs := acc.map vdC) (r := vdC x) (by rw [List.length_map]; exact hp1) hp2 rfl hv8 (by rw [List.length_map]; exact q1) q2 q3
          obtain ⟨aL', cL', eL', gL1, gL2, gL3⟩ := hrow.form
          rw [List.length_append, List.length_map, List.length_singleton] at eL' gL1
          subst eL'
          have hqo : Only (fun k => k = b) w w9 := HO3.out.trans' q2 (fun q hq h => by have := (hfl2 q h).1; omega)
          have h9 := H3.out.only q2 (fun k hk h => by have := (hfl2 k h).1; omega)
          have T := Lib.hid (take_any b all r2 dp c w9 h9)
          unfold tookP at T
          have hpos9 := h9.pos
          have HRW := Lib.hid hrow; have HQO := Lib.hid hqo; have HP9 := Lib.hid hpos9
          clear hrow hqo h9 hpos9 q1 q2 q3 gL2 gL3 gL1 hp1 hp2 hv8 hfl2 HP1 HP2 HYS HONE HCS HFL
          cases hb : isT c r2 with
          | true =>
            rw [hb] at T HNEW
            have hdone : R = .ok (acc ++ [x]) r2.tail := by have := HNEW.out; rw [if_pos rfl] at this; exact this.symm
            have htl := isT_len hb
            have HDONE := Lib.hid hdone; have HTL := Lib.hid htl; clear hdone hb htl HNEW
            go_wp2_with fail
            refine T.out.mono ?_
            rintro e w10 ⟨rfl, h10, o10⟩
            have h10 : RdP w10 b all r2.tail dp := by simpa using h10
            have hpos10 := h10.pos
            have hi : MVInv w b all dp p c R (.slice aL' (acc.length + 1) cL') false w10 := ⟨acc ++ [x], r2.tail, by rw [List.map_append, List.map_singleton]; exact HRW.out.only o10 (fun k h1 h2 e => by omega), h10, HQO.out.trans o10, by have h1 := HFEW.out; have h2 := HLT.out; have h3 := HTL.out; rw [List.length_append, List.length_singleton]; omega, (fun h => by cases h), fun _ => HDONE.out⟩
            have HI2 := Lib.hid hi; have HPX := Lib.hid hpos10
            clear hi h10 o10 hpos10 HDONE T
            go_wp2_with fail
            go_roundw
            case rel => first | exact ⟨false, rfl, HI2⟩ | ((repeat apply Exists.intro); refine ⟨?_, rfl⟩; exact ⟨false, rfl, HI2⟩)
            case measure => have h1 := HPOS.out; have h2 := HPX.out; have h3 := HLT.out; have h4 := HTL.out; omega
          | false =>
            rw [hb] at T HNEW
            have hgo : manyP p c n (acc ++ [x]) r2 = R := by have := HNEW.out; rw [if_neg (by decide)] at this; exact this
            have HGO := Lib.hid hgo; clear hgo hb HNEW
            go_wp2_with fail
            refine T.out.mono ?_
            rintro e w10 ⟨rfl, h10, o10⟩
            have h10 : RdP w10 b all r2 dp := by simpa using h10
            have hpos10 := h10.pos
            have hi : MVInv w b all dp p c R (.slice aL' (acc.length + 1) cL') true w10 := ⟨acc ++ [x], r2, by rw [List.map_append, List.map_singleton]; exact HRW.out.only o10 (fun k h1 h2 e => by omega), h10, HQO.out.trans o10, by have h1 := HFEW.out; have h2 := HLT.out; rw [List.length_append, List.length_singleton]; omega, fun _ => ⟨n, by have h1 := HN.out; have h2 := HLT.out; omega, HGO.out⟩, fun h => by cases h⟩
            have HI2 := Lib.hid hi; have HPX := Lib.hid hpos10
            clear hi h10 o10 hpos10 HGO T
            go_wp2_with fail
            go_roundw
            case rel => first | exact ⟨true, rfl, HI2⟩ | ((repeat apply Exists.intro); refine ⟨?_, rfl⟩; exact ⟨true, rfl, HI2⟩)
            case measure => have h1 := HPOS.out; have h2 := HPX.out; have h3 := HLT.out; omega
end Go.Proofs.YtgephneppgcnlaaDoor
