/- parse.reader.args, directives. -/
import Derived.Test.YtgephneppgcnlaaDoorRdA
import Derived.Test.YtgephneppgcnlaaDoorMnX
import Derived.Test.YtgephneppgcnlaaDoorPrA
namespace Go.Proofs.YtgephneppgcnlaaDoor
open Go Go.RowKit
set_option linter.unusedVariables false
set_option linter.unusedSimpArgs false

set_option maxRecDepth 100000 in
set_option maxHeartbeats 40000000 in
theorem args_any (d : Nat) (hd : d ≤ 24) (b : Nat) (all r : List Tok) (w : World) (h : RdP w b all r (24 - (d : Int))) :
    Calls Tryd.prog 83 #[.pointer (some ⟨b, 0, none⟩)] w (Ans w b all (24 - (d : Int)) (rowP w.heap.size 6 argC) (argsP d r)) := by
  have hbl := h.lt
  obtain ⟨B, hB⟩ : ∃ B, w.heap.size = B := ⟨_, rfl⟩
  have hF := fun (X : Nat) (r : List Tok) (w : World) (h : RdP w b all r (24 - (d : Int))) (hX : w.cell? ⟨X, 0, none⟩ = some (.pointer (some ⟨b, 0, none⟩))) (hXb : X ≠ b) => argFn_any d hd b X all r w hX hXb h
  obtain ⟨dp, hdp⟩ : ∃ dp : Int, 24 - (d : Int) = dp := ⟨_, rfl⟩
  rw [hdp] at h ⊢
  rw [hdp] at hF
  clear hdp
  obtain ⟨Q, hQ⟩ : ∃ Q, Ans w b all dp (rowP w.heap.size 6 argC) (argsP d r) = Q := ⟨_, rfl⟩
  rw [hQ]
  obtain ⟨w0, hw0⟩ : ∃ w0, w.alloc (.cells #[.pointer (some ⟨b, 0, none⟩)] 76) = w0 := ⟨_, rfl⟩
  have hX0 : w0.cell? ⟨B, 0, none⟩ = some (.pointer (some ⟨b, 0, none⟩)) := by
    have : w0.heap[B]? = some (.cells #[.pointer (some ⟨b, 0, none⟩)] 76 (0, 0)) := by rw [← hw0, ← hB]; exact heap_new _ _
    simp [World.cell?, this]
  have h0 : RdP w0 b all r dp := by rw [← hw0]; exact h.still ((Only.refl (fun _ => False) w).alloc _)
  have ho0 : Only (fun k => k = b) w w0 := by rw [← hw0]; exact (Only.refl _ w).alloc _
  have hs0 : B < w0.heap.size := by rw [← hw0, ← hB]; simp
  have I := Lib.hid (is_any b all r dp [40] w0 h0)
  have H0 := Lib.hid h0; have HX0 := Lib.hid hX0; have HO0 := Lib.hid ho0; have HW0 := Lib.hid hw0; have HBB := Lib.hid hB; have HF := Lib.hid hF; have HQ := Lib.hid hQ
  clear h h0 hX0 ho0 hw0 hB hF hQ
  have hbB : b < B := by have := HBB.out; omega
  cases hb : isS [40] r with
  | false =>
    rw [hb] at I
    have HE := Lib.hid (show argsP d r = .ok [] r from by unfold argsP; rw [if_neg (by rw [hb]; decide)])
    have cX := HX0.out
    clear hb
    go_enter Tryd.func83, Tryd.ntmps83
    go_upto_region 1 with (fail)
    rw [HBB.out, HW0.out]
    go_wp2_with fail
    refine I.out.mono ?_
    rintro e w1 ⟨rfl, o1⟩
    have hend : Q (.returned (.slice none 0 0)) w1 := by rw [← HQ.out, HE.out]; exact ⟨_, rfl, CellAt.nilRow _ _ _, H0.out.still o1, HO0.out.trans' o1 (fun _ _ h => h.elim)⟩
    have HEND := Lib.hid hend
    clear hend o1 cX
    go_wp2_with fail
    first
      | exact HEND.out
      | (go_ret; exact HEND.out)
  | true =>
    rw [hb] at I
    have he : argsP d r = (wantP [40] r).bind fun _ r1 => manyP (argP d) [41] (r1.length + 1) [] r1 := by
      rw [many_eq (argP_takes d) [40] [41] hb]; unfold argsP; rw [if_pos hb]
    have HE := Lib.hid he
    have cX := HX0.out
    have hmf : ∀ (fn : Fn) (first cap : Array Value) (w : World), (Instr.makeFunc fn first cap).run Tryd.prog w = .ok (.func fn first cap) w := fun _ _ _ _ => rfl
    clear hb he
    go_enter Tryd.func83, Tryd.ntmps83
    go_upto_region 1 with (fail)
    rw [HBB.out, HW0.out]
    go_wp2_with fail
    refine I.out.mono ?_
    rintro e w1 ⟨rfl, o1⟩
    have h1 := H0.out.still o1
    have ho1 := HO0.out.trans' o1 (fun _ _ h => h.elim)
    have cX1 : w1.cell? ⟨B, 0, none⟩ = some (.pointer (some ⟨b, 0, none⟩)) := (cell_keep o1 (cell_lt cX) (fun h => h)).trans cX
    have hsz : B ≤ w1.heap.size := by have := o1.size; omega
    have J := Lib.hid (manyA_any (argP d) (argP_takes d) b B all r dp [40] [41] w1 h1 (fun wx r' ox hx => HF.out B r' wx hx ((cell_keep ox (cell_lt cX1) (by show B ≠ b; omega)).trans cX1) (by omega)))
    rw [← HE.out] at J
    have HO1 := Lib.hid ho1; have HSZ := Lib.hid hsz
    clear o1 h1 ho1 cX hsz
    go_wp2_with fail
    refine J.out.mono ?_
    intro e w2 ha
    cases hq : argsP d r with
    | bad a c =>
      rw [hq] at ha
      obtain ⟨rfl, ⟨r'', dp', k1, k2, k3, k4⟩, k5⟩ := ha
      refine ⟨rfl, ?_⟩
      rw [← HQ.out, hq]
      exact ⟨rfl, ⟨r'', dp', k1, k2, k3, k4⟩, HO1.out.trans k5⟩
    | ok xs rz =>
      rw [hq] at ha
      obtain ⟨v, rfl, hv, k1, k5⟩ := ha
      have hend : Q (.returned v) w2 := by rw [← HQ.out, hq]; exact ⟨v, rfl, CellAt.weaken (fun q _ h => by have h : w1.heap.size ≤ q := h; have := HBB.out; have := HSZ.out; show w.heap.size ≤ q; omega) _ _ hv, k1, HO1.out.trans k5⟩
      have HEND := Lib.hid hend
      clear hend hv k1 k5 hq cX1
      go_wp2_with fail
      first
        | exact HEND.out
        | (go_ret; exact HEND.out)
theorem infoD : (Tryd.prog.info? 119).map (fun i => (i.zero, i.size, i.bytes)) = some (some (.agg #[.string ByteArray.empty, .slice none 0 0]), 2, 40) := by kernel_rfl
/-- Ahead of a round of directives' loop. -/
def DInv (w : World) (b : Nat) (all : List Tok) (dp : Int) (d : Nat) (R : PR (List DR)) (v3 : Value) (wr : World) : Prop :=
  ∃ (acc : List DR) (rest : List Tok), OwnRow wr w.heap.size 119 2 v3 (acc.map dirC) ∧ RdP wr b all rest dp ∧ Only (fun k => k = b) w wr ∧ acc.length + rest.length ≤ 1000000 ∧
    ∃ n, rest.length < n ∧ dirsP d n acc rest = R
set_option maxRecDepth 100000 in
set_option maxHeartbeats 40000000 in
theorem directives_any (d : Nat) (hd : d ≤ 24) (b : Nat) (all r : List Tok) (w : World) (h : RdP w b all r (24 - (d : Int))) :
    Calls Tryd.prog 82 #[.pointer (some ⟨b, 0, none⟩)] w (Ans w b all (24 - (d : Int)) (rowP w.heap.size 2 dirC) (dirsP d (r.length + 1) [] r)) := by
  have hbl := h.lt
  have hA := fun (r : List Tok) (w : World) (h : RdP w b all r (24 - (d : Int))) => args_any d hd b all r w h
  obtain ⟨dp, hdp⟩ : ∃ dp : Int, 24 - (d : Int) = dp := ⟨_, rfl⟩
  rw [hdp] at h ⊢
  rw [hdp] at hA
  clear hdp
  obtain ⟨R, hR⟩ : ∃ R, dirsP d (r.length + 1) [] r = R := ⟨_, rfl⟩
  rw [hR]
  obtain ⟨Q, hQ⟩ : ∃ Q, Ans w b all dp (rowP w.heap.size 2 dirC) R = Q := ⟨_, rfl⟩
  rw [hQ]
  have fb : ∀ a e w' r'' dp', R = .bad a e → RdP w' b all r'' dp' → atT r'' = a → dp ≤ dp' → dp' ≤ dp + 1 → Only (fun k => k = b) w w' → Q (.panicked (faultV e)) w' := fun a e w' r'' dp' he h1 h2 h3 h4 h5 => by
    rw [← hQ, he]; exact ⟨rfl, ⟨r'', dp', h1, h2, h3, h4⟩, h5⟩
  have fo : ∀ xs rz w' v, R = .ok xs rz → OwnRow w' w.heap.size 119 2 v (xs.map dirC) → RdP w' b all rz dp → Only (fun k => k = b) w w' → Q (.returned v) w' := fun xs rz w' v he h1 h2 h3 => by
    rw [← hQ, he]; exact ⟨v, rfl, h1.cell, h2, h3⟩
  have hi : DInv w b all dp d R (.slice none 0 0) w := ⟨[], r, OwnRow.nil _ _ _ _, h, Only.refl _ _, by have h3 := h.pos; have h2 := h.few; simp only [List.length_nil]; omega, r.length + 1, by omega, hR⟩
  have FB := Lib.hid fb; have FO := Lib.hid fo; have HA := Lib.hid hA; have HI := Lib.hid hi
  clear fb fo hA hi hR hQ h
  go_enter Tryd.func82, Tryd.ntmps82
  go_wp2_with fail
  go_loopw [3] (fun v3 wr => Hid (DInv w b all dp d R v3 wr)) (fun _ wr => all.length - posOf wr b)
  case atStart => exact HI
  case round =>
    obtain ⟨acc, rest, hown, hrd, hon, hfew, n, hn, heq⟩ := hrel.out
    obtain ⟨n, rfl⟩ : ∃ m, n = m + 1 := ⟨n - 1, by omega⟩
    rw [dirsP] at heq
    obtain ⟨aL, cL, eL, fL1, fL2, fL3⟩ := hown.form
    rw [List.length_map] at eL fL1
    subst eL
    have hpos := hrd.pos
    have hgl := hon.size
    have T := Lib.hid (take_any b all rest dp [64] wr hrd)
    unfold tookP at T
    obtain ⟨bb, hbb⟩ : ∃ bb, isT [64] rest = bb := ⟨_, rfl⟩
    rw [hbb] at T heq
    have HOW := Lib.hid hown; have HON := Lib.hid hon; have HN := Lib.hid hn; have HEQ := Lib.hid heq; have HPOS := Lib.hid hpos; have HFEW := Lib.hid hfew; have HFL := Lib.hid fL3; have HGL := Lib.hid hgl; have HBT := Lib.hid hbb
    clear hown hrd hon hfew hrel HI fL2 fL3 hn heq hpos hgl hbb
    go_wp2_with fail
    refine T.out.mono ?_
    rintro e w1 ⟨rfl, h1, o1⟩
    have hs1 := o1.size
    have how1 := HOW.out.only o1 (fun k h1 h2 e => by have h1 : w.heap.size ≤ k := h1; omega)
    have HO1 := Lib.hid (HON.out.trans o1); have HOW1 := Lib.hid how1; have HS1 := Lib.hid hs1
    clear o1 how1 hs1 T HOW
    cases bb with
    | false =>
      have h1 : RdP w1 b all rest dp := by simpa using h1
      have hr : R = .ok acc rest := by have := HEQ.out; rw [if_neg (by decide)] at this; exact this.symm
      have HEND := Lib.hid (FO.out _ _ _ _ hr HOW1.out h1 HO1.out)
      clear h1 hr
      go_wp2_with fail
      first
        | exact HEND.out
        | (go_ret; exact HEND.out)
    | true =>
      have h1 : RdP w1 b all rest.tail dp := by simpa using h1
      have heq2 := HEQ.out
      rw [if_pos rfl] at heq2
      have HEQ2 := Lib.hid heq2; have H1 := Lib.hid h1; have HTL := Lib.hid (isT_len HBT.out)
      clear heq2 HEQ h1
      have J := Lib.hid (name_any b all rest.tail dp w1 H1.out)
      cases hq : nameP rest.tail with
      | bad a c =>
        rw [hq] at J
        have HE := Lib.hid (HEQ2.out.symm.trans (bind_bad (bind_bad hq))); clear hq
        go_wp2_with fail
        refine J.out.mono ?_
        rintro e wz ⟨rfl, ⟨r'', dp', h1, h2, h3, h4⟩, h5⟩
        exact ⟨rfl, FB.out _ _ _ _ _ HE.out h1 h2 h3 h4 (HO1.out.trans h5)⟩
      | ok s r1 =>
        rw [hq] at J
        have HQ1 := Lib.hid hq; clear hq
        go_wp2_with fail
        refine J.out.mono ?_
        rintro e w2 ⟨v, rfl, hv, h2, o2⟩
        have hv : v = .string ⟨s.toArray⟩ := hv
        subst hv
        have hs2 := o2.size
        have how2 := HOW1.out.only o2 (fun k h1 h2 e => by have h1 : w.heap.size ≤ k := h1; omega)
        have HO2 := Lib.hid (HO1.out.trans o2); have HOW2 := Lib.hid how2; have HS2 := Lib.hid hs2; have H2 := Lib.hid h2
        clear o2 how2 hs2 h2 J HOW1 HO1 H1
        have J := Lib.hid (HA.out r1 w2 H2.out)
        cases hq : argsP d r1 with
        | bad a c =>
          rw [hq] at J
          have HE := Lib.hid (HEQ2.out.symm.trans (bind_bad ((bind_ok HQ1.out).trans (bind_bad hq)))); clear hq
          go_wp2_with fail
          refine J.out.mono ?_
          rintro e wz ⟨rfl, ⟨r'', dp', h1, h2, h3, h4⟩, h5⟩
          exact ⟨rfl, FB.out _ _ _ _ _ HE.out h1 h2 h3 h4 (HO2.out.trans h5)⟩
        | ok gs r2 =>
          rw [hq] at J
          have hdir : dirP d rest.tail = .ok ⟨s, gs⟩ r2 := (bind_ok HQ1.out).trans (bind_ok hq)
          have hlt := dirP_takes d _ _ _ hdir
          have hnew := (bind_ok hdir).symm.trans HEQ2.out
          have HLT := Lib.hid hlt; have HNEW := Lib.hid hnew
          clear hq hdir hlt hnew HEQ2 HQ1
          go_wp2_with fail
          refine J.out.mono ?_
          rintro ee w3 ⟨v, rfl, hv, h3, o3⟩
          obtain ⟨a1, e1, er⟩ := row_form hv
          rw [List.length_map] at er
          subst er
          have hcs : CellsAt w3 (fun q => w2.heap.size ≤ q) (dirC ⟨s, gs⟩) [.string ⟨s.toArray⟩, .slice a1 gs.length e1] := CellsAt.lit rfl (CellsAt.cons hv (CellsAt.nil _ _))
          have hg := heap_new w3 (.cells #[.string ⟨s.toArray⟩, .slice a1 gs.length e1] 119)
          have hg2 : w3.heap.size = (w3.alloc (.cells #[.string ⟨s.toArray⟩, .slice a1 gs.length e1] 119)).heap.size - 1 := by simp
          have on := (Only.refl (fun _ => False) w3).alloc (.cells #[.string ⟨s.toArray⟩, .slice a1 gs.length e1] 119)
          have hs3 : w2.heap.size ≤ w3.heap.size := o3.size
          obtain ⟨xs, p1, p2⟩ := (HOW2.out.only o3 (fun k h1 h2 e => by have h1 : w.heap.size ≤ k := h1; omega)).only on (fun _ _ _ h => h)
          have hcs2 := CellsAt.only on (fun _ _ h => h) _ _ hcs
          have h4 := h3.still on
          have ho4 := (HO2.out.trans o3).trans' on (fun _ _ h => h.elim)
          obtain ⟨G, hG⟩ : ∃ G, w3.heap.size = G := ⟨_, rfl⟩
          rw [hG] at hg hs3 hg2
          obtain ⟨w4, hw4⟩ : ∃ w4, w3.alloc (.cells #[.string ⟨s.toArray⟩, .slice a1 gs.length e1] 119) = w4 := ⟨_, rfl⟩
          rw [hw4] at hg on p1 p2 hcs2 h4 ho4 hg2
          have hys : ∀ j u, ([.string ⟨s.toArray⟩, .slice a1 gs.length e1] : List Value)[j]? = some u → w4.cell? ((⟨G, 0, none⟩ : Addr).add j) = some u := fun j u hu => by rw [addr_add]; exact range_of_block hg j u hu
          have hone : ∀ u ∈ ([.string ⟨s.toArray⟩, .slice a1 gs.length e1] : List Value), u.oneCell' = true := CellsAt.one hcs
          rw [List.length_map] at p1
          have HP1 := Lib.hid p1; have HP2 := Lib.hid p2; have HYS := Lib.hid hys; have HONE := Lib.hid hone; have HCS := Lib.hid hcs2; have H4 := Lib.hid h4; have HO4 := Lib.hid ho4; have HG := Lib.hid hG; have HW4 := Lib.hid hw4; have HS3 := Lib.hid hs3; have HG2 := Lib.hid hg2
          clear p1 p2 hys hone hcs2 h4 ho4 hG hw4 hs3 hg2 hg on hcs h3 o3 J HOW2 hv
          go_wp2_with ((rw [HG.out, HW4.out]; refine wpList_append_own2 (o := ⟨some 13, _, _, _, _, _⟩) rfl (.tmp 6) (.tmp 12) 49 119 (by rfl) Tryd.underlying49 infoD rfl (by decide) w.heap.size (.slice aL acc.length cL) acc.length 1 1 xs [.string ⟨s.toArray⟩, .slice a1 gs.length e1] ⟨G, 0, none⟩ (by rfl) (by rfl) HP1.out (by rfl) HYS.out HONE.out (by have := HFEW.out; unfold maxLen; omega) (by have := HFEW.out; omega) (by have := HG2.out; have := HS3.out; have := HGL.out; have := HS1.out; have := HS2.out; omega) ?_; intro v' w9 q1 q2 q3))
          have hfl2 := HFL.out
          have hv8 : CellsAt w4 (fun q => w.heap.size ≤ q ∧ (Value.slice aL acc.length cL).ownBlock ≠ some q ∧ q < w4.heap.size) (dirC ⟨s, gs⟩) [.string ⟨s.toArray⟩, .slice a1 gs.length e1] := CellsAt.weaken (fun q hq h => by have h : w2.heap.size ≤ q := h; have := HGL.out; have := HS1.out; have := HS2.out; exact ⟨by omega, fun hv => (by have := (hfl2 q hv).2; omega), hq⟩) _ _ HCS.out
          have hp1 := HP1.out; have hp2 := HP2.out
          have hrow := OwnRow.append (rs := acc.map dirC) (r := dirC ⟨s, gs⟩) (by rw [List.length_map]; exact hp1) hp2 rfl hv8 (by rw [List.length_map]; exact q1) q2 q3
          have hqo : Only (fun k => k = b) w w9 := HO4.out.trans' q2 (fun q hq h => by have := (hfl2 q h).1; omega)
          have h9 := H4.out.only q2 (fun k hk h => by have := (hfl2 k h).1; omega)
          have hpos9 := h9.pos
          have hi : DInv w b all dp d R v' w9 := ⟨acc ++ [⟨s, gs⟩], r2, by rw [List.map_append, List.map_singleton]; exact hrow, h9, hqo, by have h1 := HFEW.out; have h2 := HLT.out; have h3 := HTL.out; rw [List.length_append, List.length_singleton]; omega, n, by have h1 := HN.out; have h2 := HLT.out; have h3 := HTL.out; omega, HNEW.out⟩
          have HI2 := Lib.hid hi; have HPX := Lib.hid hpos9
          clear hi hrow hqo h9 hpos9 q1 q2 q3 hp1 hp2 hv8 hfl2 HP1 HP2 HYS HONE HCS HFL
          go_wp2_with fail
          go_roundw
          case rel => first | exact HI2 | ((repeat apply Exists.intro); refine ⟨?_, rfl⟩; exact HI2)
          case measure => have h1 := HPOS.out; have h2 := HPX.out; have h3 := HLT.out; have h4 := HTL.out; omega
end Go.Proofs.YtgephneppgcnlaaDoor
