/- . -/
import Derived.Test.YtnkpoddbbdmipaaGreatDoorTTyRgr
import Derived.Test.YtnkpoddbbdmipaaGreatDoorTTyRtks
namespace Go.Proofs.YtnkpoddbbdmipaaGreatDoor
open Go Go.RowKit
open Go.Lib (hid)
set_option linter.unusedVariables false
set_option linter.unusedSimpArgs false
theorem infoTdG : (Tryz.prog.info? 99).map (fun i => (i.zero, i.size, i.bytes)) = some (some (.agg #[.int .u8 0, .string ByteArray.empty, .slice none 0 0, .slice none 0 0]), 4, 72) := by kernel_rfl
def TysResF (w : World) (p : TR1) (e : Ending) (w' : World) : Prop := match p with
 | .ok l => ∃ a c, e = .returned (.tuple #[.slice a l.length c, .int .i64 0, .int .i64 0]) ∧ CellAt w' (fun q => w.heap.size ≤ q) (.row 4 (l.map tdC)) (.slice a l.length c) ∧ Only (fun _ => False) w w'
 | .bad x c => e = .returned (.tuple #[.slice none 0 0, .int .i64 (x : Int), .int .i64 (c : Int)]) ∧ Only (fun _ => False) w w'
def tysG (total : PR (List TD)) : TR1 := match total with | .ok d _ => .ok d | .bad a e => .bad a e
def tysS (first : Bool) (acc : List TD) (r : List Tok) : PR (List TD) := if first then tysF (r.length + 1) acc r else if isK 0 r then .ok acc r else tysF (r.length + 1) acc r
theorem tys_step {first : Bool} {acc : List TD} {r : List Tok} (h : first = true ∨ isK 0 r = false) : tysS first acc r = (tdP r).bind fun t r1 => tysS false (acc ++ [t]) r1 := by
 have e : tysS first acc r = tysF (r.length + 1) acc r := by
  unfold tysS
  cases first with
  | true => rfl
  | false => rw [if_neg (by decide), if_neg (by rw [h.resolve_left (by decide)]; decide)]
 rw [e, tysF]
 cases hq : tdP r with
 | bad a e => rfl
 | ok t r1 =>
  have hl := tdP_takes _ _ _ hq
  show (if isK 0 r1 = true then PR.ok (acc ++ [t]) r1 else tysF r.length (acc ++ [t]) r1) = tysS false (acc ++ [t]) r1
  unfold tysS; rw [if_neg (show ¬ (false = true) by decide)]
  by_cases hk : isK 0 r1 = true
  ·rw [if_pos hk, if_pos hk]
  ·rw [if_neg hk, if_neg hk]; exact tysF_fuel _ _ _ _ (by omega) (by omega)
structure TF (w : World) (b : Nat) (ts : List Tok) (total : PR (List TD)) (v : Value) (first : Bool) (wr : World) (σ : PR Unit) (rs : List (List Cell)) : Prop where
 rd : Rf wr b ⟨ts, 0⟩ σ
 own : OwnRow wr (b + 1) 99 4 v rs
 only : Only (fun _ => False) w wr
 few : rs.length ≤ 1000000
 ok : ∀ u r, σ = .ok u r → rs.length + r.length ≤ 1000000 ∧ ∃ acc : List TD, rs = acc.map tdC ∧ total = tysS first acc r
 bad : ∀ a e, σ = .bad a e → first = false ∧ total = .bad a e
set_option maxRecDepth 100000 in
set_option maxHeartbeats 40000000 in
theorem ftypes_any (s : ByteArray) (w : World) (hs : s.size ≤ maxLen) :
  Calls Tryz.prog 29 #[.string s] w (TysResF w (tysP s.data.toList)) := by
 obtain ⟨Q, hQ⟩ := eX (TysResF w (tysP s.data.toList)); rw [hQ]; have J := hid (rtokens_any s w hs); have hdp : tysP s.data.toList = match toks s.data.toList with | .bad a e => .bad a e | .ok ts => tysG (tysF (ts.length + 1) [] ts) := by
  unfold tysP
  cases toks s.data.toList with
  | bad a e => rfl
  | ok ts =>
   show (match tysF (ts.length + 1) [] ts with | .ok d _ => TR1.ok d | .bad a e => .bad a e) = tysG (tysF (ts.length + 1) [] ts)
   generalize tysF (ts.length + 1) [] ts = z
   cases z <;> rfl
 cases ht : toks s.data.toList with
 | bad a c =>
  rw [ht] at J hdp; have hc := toks_bad ht; have hne : ((c : Int) != 0) = true := by simp; omega
  have HP := hid (show ∀ w', Only (fun _ => False) w w' → Q (.returned (.tuple #[.slice none 0 0, .int .i64 (a : Int), .int .i64 (c : Int)])) w' from fun w' h => by rw [← hQ, hdp]; exact ⟨rfl, h⟩); clear hQ ht hs hdp hc
  go_enter Tryz.func29, Tryz.ntmps29
  go_wp2_with fail
  refine J.out.mono ?_
  rintro e w1 ⟨rfl, o1⟩; have HE := hid (HP.out w1 o1); clear o1
  go_wp2_with fail
  first
   | exact HE.out
   | (go_ret; exact HE.out)
 | ok ts =>
  rw [ht] at J hdp; have HW := hid (toks_words ht); obtain ⟨he, hl⟩ := toks_end ht; obtain ⟨total, hR⟩ := eX (tysF (ts.length + 1) [] ts); simp only [hR] at hdp; have hfo : ∀ d rest w' a c, total = .ok d rest → CellAt w' (fun q => w.heap.size ≤ q) (.row 4 (d.map tdC)) (.slice a d.length c) → Only (fun _ => False) w w' → Q (.returned (.tuple #[.slice a d.length c, .int .i64 0, .int .i64 0])) w' := fun d rest w' a c h1 h2 h3 => by
   rw [← hQ, hdp, h1]; exact ⟨a, c, rfl, h2, h3⟩
  have hfb : ∀ a c w', total = .bad a c → Only (fun _ => False) w w' → Q (.returned (.tuple #[.slice none 0 0, .int .i64 (a : Int), .int .i64 (c : Int)])) w' := fun a c w' h1 h3 => by
   rw [← hQ, hdp, h1]; exact ⟨rfl, h3⟩
  have FO := hid hfo; have FB := hid hfb; have HE := hid he; have HL := hid hl; have HR := hid hR; clear hQ ht hs he hl hR hdp hfo hfb
  go_enter Tryz.func29, Tryz.ntmps29
  go_wp2_with fail
  refine J.out.mono ?_
  rintro e w1 ⟨v, rfl, hv, o1⟩; have hpos : 0 < ts.length := by have h1 := HE.out; cases ts with | nil => exact h1.elim | cons t u => simp
  obtain ⟨g, cg, rfl, hgB, hgz, -⟩ := own_range hv hpos; have htr := TRow.of_own hv hpos; obtain ⟨b, hb⟩ := eX (w1.heap.size); obtain ⟨w2, hw2⟩ := eX (w1.alloc (.cells #[.slice (some ⟨g, 0, none⟩) ts.length cg, .int .i64 0, .int .i64 0, .int .i64 0, .int .i64 0] 71)); have oa2 : Only (fun _ => False) w1 w2 := by rw [← hw2]; exact (Only.refl _ w1).alloc _
  have hb2 : w2.heap[b]? = some (.cells #[.slice (some ⟨g, 0, none⟩) ts.length cg, .int .i64 0, .int .i64 0, .int .i64 0, .int .i64 0] 71 (0, 0)) := by rw [← hw2, ← hb]; exact heap_new _ _
  have hwb : w.heap.size ≤ b := by have := o1.size; omega
  have hrd : Rf w2 b ⟨ts, 0⟩ (.ok () ts) := ⟨0, 0, 0, 0, ⟨⟨g, 0, cg, hb2, htr.still oa2, by omega⟩, by show ts.length ≤ _; have := HL.out; omega, HW.out⟩, rfl, rfl, HE.out, 0, rfl, rfl, by show 0 + ts.length = ts.length; omega⟩; have HI := hid (show TF w b ts total (.slice none 0 0) true w2 (.ok () ts) [] from ⟨hrd, OwnRow.nil _ _ _ _, o1.trans oa2, by simp, fun u r e => by injection e with _ e; subst e; exact ⟨by have := HL.out; simp; omega, [], rfl, HR.out.symm⟩, fun a e h => by cases h⟩); have HB := hid hb; have HW2 := hid hw2; clear hb hw2 oa2 hb2 hrd htr hv o1 hgB hgz hpos J HE HL HW HR
  go_upto_region 5 with (fail)
  rw [HB.out, HW2.out]; clear HB HW2
  go_wp2_with fail
  go_loopw [9, 10] (fun v9 v10 wr => ∃ first : Bool, v10 = .bool first ∧ Hid (∃ σ rs, TF w b ts total v9 first wr σ rs)) (fun _ v10 wr => muF wr b ⟨ts, 0⟩)
  case atStart => exact ⟨true, rfl, hid ⟨_, _, HI.out⟩⟩
  case round =>
   obtain ⟨first, rfl, hrel⟩ := hrel; obtain ⟨σ, rs, htf⟩ := hrel.out; obtain ⟨aL, cL, eL, fL1, fL2, fL3⟩ := htf.own.form; subst eL; have fL2n : cL ≤ 9223372036854775807 := by unfold maxLen at fL2; omega
   have hbl := htf.rd.lt; have HTF := hid htf; have HFL := hid fL3; have HCELL := hid (show CellAt wr (fun q => w.heap.size ≤ q) (.row 4 rs) (.slice aL rs.length cL) from CellAt.weaken (fun q _ h => by have h : b + 1 ≤ q := h; show w.heap.size ≤ q; omega) _ _ htf.own.cell); obtain ⟨e0, ce, cz, hσ⟩ := htf.rd.err; clear htf fL2 fL3 hrel HI
   rcases hσ with ⟨rr, rfl, rfl⟩ | ⟨ab, rfl, he0⟩
   rotate_left
   ·-- a fault
    obtain ⟨rfl, htl⟩ := HTF.out.bad _ _ rfl; have t1 : ((e0 : Int) == 0) = false := by simp; omega
    have t2 : ((e0 : Int) != 0) = true := by simp; omega
    obtain ⟨_, v, i, dv, c0, c1, c2, c3, c4, fz⟩ := HTF.out.rd.bad_cells; have HEND := hid (fun wz (o : Only (fun _ => False) wr wz) => FB.out ab e0 wz htl (HTF.out.only.trans o)); clear htl he0 ce cz c0 c1 c2
    go_wp2_with fail
    go_quiet (fail)
    have HEND2 := hid (HEND.out _ ((Only.refl (fun _ => False) wr).drewN nq)); clear c3 c4 fz
    go_wp2_with fail
    first
     | exact HEND2.out
     | (go_ret; exact HEND2.out)
   by_cases hstop : first = false ∧ isK 0 rr = true
   ·obtain ⟨rfl, hk⟩ := hstop; have K := hid (fKind_any b ⟨ts, 0⟩ (.ok () rr) 0 wr HTF.out.rd (by decide)); rw [show tst (.ok () rr : PR Unit) (isK 0) = true from hk] at K; obtain ⟨_, acc, hacc, htl⟩ := HTF.out.ok _ _ rfl; have htl : total = .ok acc rr := by rw [htl]; unfold tysS; rw [if_neg (by decide), if_pos hk]
    have hlen : rs.length = acc.length := by rw [hacc, List.length_map]
    have HEND := hid (fun wz (o : Only (fun _ => False) wr wz) => (show Q (.returned (.tuple #[.slice aL rs.length cL, .int .i64 0, .int .i64 0])) wz from by
     rw [hlen]
     exact FO.out acc rr wz aL cL htl (by rw [← hlen, ← hacc]; exact CellAt.only o (fun _ _ h => h) _ _ HCELL.out) (HTF.out.only.trans o)))
    clear hacc htl hlen hk
    go_wp2_with fail
    refine K.out.mono ?_
    rintro e w3 ⟨rfl, o3⟩; obtain ⟨e9, ce', cz', hσ⟩ := (HTF.out.rd.still o3).err; have he9 : e9 = 0 := by rcases hσ with ⟨_, _, h⟩ | ⟨_, h, _⟩; exact h; cases h
    subst he9; have HEND2 := hid (HEND.out w3 o3); clear o3 hσ ce cz
    go_wp2_with fail
    clear ce' cz'
    first
     | exact HEND2.out
     | (go_ret; exact HEND2.out)
   have hcl : first = true ∨ isK 0 rr = false := by
    cases first with
    | true => exact .inl rfl
    | false => right; cases hk : isK 0 rr with | false => rfl | true => exact absurd ⟨rfl, hk⟩ hstop
   have HCL := hid hcl; have HFEW := hid (show rs.length + 1 ≤ 1000000 by have h1 := (HTF.out.ok _ _ rfl).1; have h2 := HTF.out.rd.few.2; omega); clear hstop
   go_upto_region 7 with (fail)
   go_cut [37] from 25 to 37 (fun v w' => v = .bool true ∧ Only (fun _ => False) wr w')
   case first =>
    clear HCL HFEW
    cases first with
    | true =>
     go_wp2_with fail
     clear ce cz
     go_meet
     case rel => exact ⟨rfl, oR⟩
    | false =>
     have hk := hcl.resolve_left (by decide); have K := hid (fKind_any b ⟨ts, 0⟩ (.ok () rr) 0 wr HTF.out.rd (by decide)); rw [show tst (.ok () rr : PR Unit) (isK 0) = false from hk] at K; clear hcl hk
     go_wp2_with fail
     refine K.out.mono ?_
     rintro e w20 ⟨rfl, o4⟩; have HO2 := hid o4; clear ce cz o4
     go_wp2_with fail
     go_meet
     case rel => exact ⟨rfl, HO2.out⟩
   case rest =>
   obtain ⟨rfl, ho0⟩ := hcut; obtain ⟨w0, hw0⟩ := eX (wc); rw [hw0] at ho0 ⊢; have J := hid (fone_any b ⟨ts, 0⟩ rfl (.ok () rr) w0 (HTF.out.rd.still ho0)); have HO0 := hid ho0; clear hw0 ho0 ce cz hcl
   go_wp2_with fail
   refine J.out.mono ?_
   rintro e w3 ⟨v, rfl, ⟨k, s0, a0, l0, e0, a1, l1, e1, rfl⟩, hd3, hv, o3⟩; have hd3 : Rf w3 b ⟨ts, 0⟩ (tdP rr).unit := hd3; have hs0 : wr.heap.size ≤ w0.heap.size := HO0.out.size; have hvc : ∀ x q, tdP rr = .ok x q → CellsAt w3 (fun q => w0.heap.size ≤ q ∧ q < w3.heap.size) (tdC x) [.int .u8 (k : Int), .string ⟨s0.toArray⟩, .slice a0 l0 e0, .slice a1 l1 e1] := fun x q e => CellsAt.weaken (fun q hq h => ⟨h, hq⟩) _ _ (aggF_cells (hv x q e))
   obtain ⟨row, hrow, hrx⟩ := elem_row (P := tdP rr) (enc := tdC) (ys := [.int .u8 (k : Int), .string ⟨s0.toArray⟩, .slice a0 l0 e0, .slice a1 l1 e1]) hvc (by intro u hu; simp at hu; rcases hu with rfl | rfl | rfl | rfl <;> rfl); obtain ⟨X, hX⟩ := eX (w3.heap.size); obtain ⟨w4, hw4⟩ := eX (w3.alloc (.cells #[.int .u8 (k : Int), .string ⟨s0.toArray⟩, .slice a0 l0 e0, .slice a1 l1 e1] 99)); have o4 : Only (fun _ => False) w3 w4 := by rw [← hw4]; exact (Only.refl _ _).alloc _
   have hx4 : w4.heap[X]? = some (.cells #[.int .u8 (k : Int), .string ⟨s0.toArray⟩, .slice a0 l0 e0, .slice a1 l1 e1] 99 (0, 0)) := by rw [← hw4, ← hX]; exact heap_new _ _
   obtain ⟨G, hG⟩ := eX (w4.heap.size); obtain ⟨w5, hw5⟩ := eX (w4.alloc (.cells #[.int .u8 (k : Int), .string ⟨s0.toArray⟩, .slice a0 l0 e0, .slice a1 l1 e1] 99)); have o5 : Only (fun _ => False) w4 w5 := by rw [← hw5]; exact (Only.refl _ _).alloc _
   have hg5 : w5.heap[G]? = some (.cells #[.int .u8 (k : Int), .string ⟨s0.toArray⟩, .slice a0 l0 e0, .slice a1 l1 e1] 99 (0, 0)) := by rw [← hw5, ← hG]; exact heap_new _ _
   have hgs : G + 1 = w5.heap.size := by rw [← hw5, World.size_alloc, hG]
   have o05 : Only (fun k => k = b) wr w5 := (((HO0.out.mono (T := fun k => k = b) (fun _ _ h => h.elim)).trans o3).trans' o4 (fun _ _ h => h.elim)).trans' o5 (fun _ _ h => h.elim); have hG1 : b + 1 ≤ G := by have h1 := o3.size; have h2 := o4.size; omega
   have hys : ∀ j u, ([.int .u8 (k : Int), .string ⟨s0.toArray⟩, .slice a0 l0 e0, .slice a1 l1 e1] : List Value)[j]? = some u → w5.cell? ((⟨G, 0, none⟩ : Addr).add j) = some u := fun j u hu => by rw [addr_add]; exact range_of_block (cs := [.int .u8 (k : Int), .string ⟨s0.toArray⟩, .slice a0 l0 e0, .slice a1 l1 e1]) hg5 j u hu
   have hone : ∀ u ∈ ([.int .u8 (k : Int), .string ⟨s0.toArray⟩, .slice a0 l0 e0, .slice a1 l1 e1] : List Value), u.oneCell' = true := by intro u hu; simp at hu; rcases hu with rfl | rfl | rfl | rfl <;> rfl
   obtain ⟨xs, p1', p2'⟩ := HTF.out.own.only o05 (fun k h1 h2 e => by have e : k = b := e; omega); have HX := hid hX; have HW4 := hid hw4; have HX4 := hid hx4; have HG := hid hG; have HW5 := hid hw5; have HYS := hid hys; have HONE := hid hone; have HP1 := hid p1'; have HP2 := hid p2'; have HGS := hid hgs; have HG1 := hid hG1; have HD5 := hid (hd3.still (o4.trans o5)); have HO5 := hid (HTF.out.only.trans' o05 (fun q hq e => by have e : q = b := e; omega)); have HRX := hid hrx; have HV5 := hid (show CellsAt w5 (fun q => b + 1 ≤ q ∧ (Value.slice aL rs.length cL).ownBlock ≠ some q ∧ q < w5.heap.size) row [.int .u8 (k : Int), .string ⟨s0.toArray⟩, .slice a0 l0 e0, .slice a1 l1 e1] from CellsAt.weaken (fun q hq h => ⟨by have := h.1; omega, fun e => by have h1 := h.1; have := (HFL.out q e).2; omega, hq⟩) _ _ (CellsAt.only (o4.trans o5) (fun _ _ h => h) _ _ hrow)); clear hX hw4 hx4 hG hw5 hys hone p1' p2' hd3 o4 o5 hg5 hv hvc o3 J hgs hrow hrx o05 hG1 hs0
   go_upto_region 10 with (fail)
   rw [HX.out, HW4.out]; clear HX HW4; obtain ⟨x0, x1, x2, x3, -⟩ := boxN4 HX4.out
   go_wp2_with ((rw [HG.out, HW5.out]; refine wpList_append_own2 (o := ⟨some 43, _, _, _, _, _⟩) rfl (.tmp 40) (.tmp 42) 61 99 (by rfl) Tryz.underlying61 infoTdG rfl (by decide) (b + 1) (.slice aL rs.length cL) rs.length 1 1 xs [.int .u8 (k : Int), .string ⟨s0.toArray⟩, .slice a0 l0 e0, .slice a1 l1 e1] ⟨G, 0, none⟩ (by rfl) (by rfl) HP1.out (by rfl) HYS.out HONE.out (by have := HFEW.out; unfold maxLen; omega) (by have := HFEW.out; omega) (by have := HGS.out; have := HG1.out; omega) ?_; intro v' w9 q1 q2 q3; obtain ⟨aL', cL', eL', gL1, gL2, -⟩ := own_form q1; subst eL'; clear x0 x1 x2 x3))
   have hF := HFL.out; have hrow2 := OwnRow.append HP1.out HP2.out rfl HV5.out q1 q2 q3; have hdd := HD5.out.only q2 (fun k hk h => by have := (hF k h).1; omega); have hoo : Only (fun _ => False) w w9 := HO5.out.trans' q2 (fun q hq h => by have := (hF q h).1; omega); have hpos := HTF.out.rd.few.2; obtain ⟨hfew, acc, hacc, htl⟩ := HTF.out.ok _ _ rfl; rw [tys_step HCL.out] at htl; have hnew : TF w b ts total (.slice aL' (rs.length + 1) cL') false w9 (tdP rr).unit (rs ++ [row]) := by
    refine ⟨hdd, hrow2, hoo, by rw [List.length_append, List.length_singleton]; omega, fun u r e => ?_, fun a e h => ⟨rfl, ?_⟩⟩
    ·cases hq : tdP rr with
     | bad a e' => rw [hq] at e; cases e
     | ok x r2 =>
      rw [hq] at e htl
      injection e with _ e; subst e
      have hl := tdP_takes _ _ _ hq; exact ⟨by rw [List.length_append, List.length_singleton]; omega, acc ++ [x], by rw [hacc, HRX.out x _ hq, List.map_append]; rfl, htl⟩
    ·cases hq : tdP rr with
     | bad a' e' => rw [hq] at h htl; injection h with h1 h2; subst h1; subst h2; exact htl
     | ok x r2 => rw [hq] at h; cases h
   have hmu : muF w9 b ⟨ts, 0⟩ < muF wr b ⟨ts, 0⟩ := by
    rw [muF_ok HTF.out.rd]
    cases hq : tdP rr with
    | bad p q => rw [hq] at hdd; rw [muF_bad hdd]; omega
    | ok x r2 => rw [hq] at hdd; rw [muF_ok (u := ()) hdd]; have := tdP_takes _ _ _ hq; omega
   have HNEW := hid hnew; have HMU := hid hmu; clear hnew hmu htl hacc hfew hoo hdd hrow2 q1 q2 q3 gL1 gL2 hF HV5 HD5 HO5 hpos
   go_wp2_with fail
   go_roundw
   case rel => first | exact ⟨false, rfl, hid ⟨_, _, HNEW.out⟩⟩ | ((repeat apply Exists.intro); refine ⟨?_, rfl⟩; exact ⟨false, rfl, hid ⟨_, _, HNEW.out⟩⟩)
   case measure => exact HMU.out
end Go.Proofs.YtnkpoddbbdmipaaGreatDoor
