/- . -/
import Derived.Test.YtnkpoddbbdmipaaGreatDoorTApRhw
namespace Go.Proofs.YtnkpoddbbdmipaaGreatDoor
open Go Go.RowKit
open Go.Lib (hid)
set_option linter.unusedVariables false
set_option linter.unusedSimpArgs false
theorem infoOp : (Tryz.prog.info? 56).map (fun i => (i.zero, i.size, i.bytes)) = some (some (.agg #[.bool false, .string ByteArray.empty, .slice none 0 0, .slice none 0 0]), 4, 72) := by kernel_rfl
theorem infoFr : (Tryz.prog.info? 76).map (fun i => (i.zero, i.size, i.bytes)) = some (some (.agg #[.string ByteArray.empty, .string ByteArray.empty, .slice none 0 0]), 3, 56) := by kernel_rfl
theorem infoVd : (Tryz.prog.info? 60).map (fun i => (i.zero, i.size, i.bytes)) = some (some (.agg #[.string ByteArray.empty, .string ByteArray.empty, .slice none 0 0, .bool false, .bool false, .int .u8 0, .int .i64 0, .string ByteArray.empty, .slice none 0 0, .slice none 0 0]), 10, 152) := by kernel_rfl
theorem Rf.bad_block {w : World} {b : Nat} {all : RL} {a c : Nat} (h : Rf w b all (.bad a c)) : c ≠ 0 ∧ ∃ v i dv, w.heap[b]? = some (.cells #[v, .int .i64 i, .int .i64 dv, .int .i64 (a : Int), .int .i64 (c : Int)] 71 (0, 0)) := by
 obtain ⟨i, dv, bd, e, h, rfl, h2, rfl⟩ := h; obtain ⟨g, off, cc, h1, -⟩ := h.row; exact ⟨h2, _, i, dv, h1⟩
theorem tst_ok {σ : PR Unit} {c : List Tok → Bool} (h : tst σ c = true) : ∃ r, σ = .ok () r ∧ c r = true := by
 cases σ with
 | ok u r => exact ⟨r, rfl, h⟩
 | bad a e => cases h
theorem Jn.mapK {τ τ' α : Type} {total : PR α} {σ : PR Unit} {K : τ → Prop} {K' : τ' → Prop} {F : τ → List Tok → PR α} {F' : τ' → List Tok → PR α} (f : τ → τ') (h : Jn total σ K F) (hF : ∀ t, K t → F t = F' (f t)) (hK : ∀ t, K t → K' (f t)) : Jn total σ K' F' := by
 obtain ⟨Q, h1, h2, h3⟩ := h; refine ⟨Q.bind fun t r => .ok (f t) r, ?_, ?_, fun t q e => ?_⟩
 ·rw [h1]
  cases Q with
  | ok t q => exact congrFun (hF t (h3 _ _ rfl)) q
  | bad a e => rfl
 ·rw [h2]; cases Q <;> rfl
 ·cases Q with
  | ok t0 q0 => injection e with e1 e2; subst e1; exact hK _ (h3 _ _ rfl)
  | bad a c => cases e
structure DF (w : World) (b D R : Nat) (all : RL) (tot : PR DC) (first : Bool) (wr : World) (σ : PR Unit) (vO vF : Value) (os fs : List (List Cell)) : Prop where
 rd : Rf wr b all σ
 box : wr.heap[D]? = some (.cells #[vO, vF] 26 (0, 0))
 res : wr.heap[R]? = some (.cells #[.slice none 0 0, .slice none 0 0] 26 (0, 0))
 own : OwnTwo wr (D + 1) 56 76 4 3 vO vF os fs
 only : Only (fun _ => False) w wr
 ok : ∀ u r, σ = .ok u r → os.length + fs.length + r.length ≤ 1000000 ∧ ∃ acc : DC, os = acc.ops.map opC ∧ fs = acc.frags.map frC ∧ tot = docS first acc r
 bad : ∀ a e, σ = .bad a e → first = false ∧ tot = .bad a e
structure DV (tl : PR (List VD)) (wr wl : World) (b Y : Nat) (all : RL) (m : Bool) (s : List UInt8) (first : Bool) (σ : PR Unit) (wz : World) (rv : List (List Cell)) (vV : Value) : Prop where
 rd : Rf wz b all σ
 box : wz.heap[Y]? = some (.cells #[.bool m, .string ⟨s.toArray⟩, vV, .slice none 0 0] 56 (0, 0))
 own : OwnRow wz wl.heap.size 60 10 vV rv
 only : Only (fun k => k = b) wr wz
 onl : Only (fun k => k = b ∨ k = Y) wl wz
 ls : LS varP [41] tl first rv.length (fun acc => rv = acc.map vdC) σ
def DA (total : PR OP) (wr : World) (b Y : Nat) (all : RL) (wz : World) : Prop :=
 ∃ (m : Bool) (σ : PR Unit), Rf wz b all σ ∧ wz.heap[Y]? = some (.cells #[.bool m, .string ⟨#[]⟩, .slice none 0 0, .slice none 0 0] 56 (0, 0)) ∧ Only (fun k => k = b) wr wz ∧ Jn total σ (fun (_ : Unit) => True) (fun _ r => if m then opN true r else (wantP [113, 117, 101, 114, 121] r).bind fun _ r1 => opN false r1)
def DB (total : PR OP) (wr : World) (b Y : Nat) (all : RL) (wz : World) : Prop :=
 ∃ (m : Bool) (σ : PR Unit), Rf wz b all σ ∧ wz.heap[Y]? = some (.cells #[.bool m, .string ⟨#[]⟩, .slice none 0 0, .slice none 0 0] 56 (0, 0)) ∧ Only (fun k => k = b) wr wz ∧ Jn total σ (fun (_ : Unit) => True) (fun _ => opN m)
def DC1 (total : PR OP) (wr : World) (b Y : Nat) (all : RL) (wz : World) : Prop :=
 ∃ (m : Bool) (s : List UInt8) (σ : PR Unit), Rf wz b all σ ∧ wz.heap[Y]? = some (.cells #[.bool m, .string ⟨s.toArray⟩, .slice none 0 0, .slice none 0 0] 56 (0, 0)) ∧ Only (fun k => k = b) wr wz ∧ Jn total σ (fun (_ : Unit) => True) (fun _ => opV m s)
set_option maxRecDepth 100000 in
set_option maxHeartbeats 40000000 in
theorem fdocument_any (s : ByteArray) (w : World) (hs : s.size ≤ maxLen) :
  Calls Tryz.prog 12 #[.string s] w (DocResF w (docP s.data.toList)) := by
 obtain ⟨Q, hQ⟩ := eX (DocResF w (docP s.data.toList)); rw [hQ]; obtain ⟨R, hR⟩ := eX (w.heap.size); obtain ⟨wa, hwa⟩ := eX (w.alloc (.cells #[.slice none 0 0, .slice none 0 0] 26)); have hra : wa.heap[R]? = some (.cells #[.slice none 0 0, .slice none 0 0] 26 (0, 0)) := by rw [← hwa, ← hR]; exact heap_new _ _
 have hoa : Only (fun _ => False) w wa := by rw [← hwa]; exact (Only.refl _ w).alloc _
 have J := hid (rtokens_any s wa hs); have HRR := hid hR; have HWA := hid hwa; have HRA := hid hra; have HOA := hid hoa; have hRw : w.heap.size ≤ R := by omega
 clear hR hwa hra hoa
 cases ht : toks s.data.toList with
 | bad a c =>
  have hdp : docP s.data.toList = .bad a c := by unfold docP; rw [ht]
  rw [ht] at J; have hc := toks_bad ht; have hne : ((c : Int) != 0) = true := by simp; omega
  have HP := hid (show ∀ w', Only (fun _ => False) w w' → Q (.returned (.tuple #[.agg #[.slice none 0 0, .slice none 0 0], .int .i64 (a : Int), .int .i64 (c : Int)])) w' from fun w' h => by rw [← hQ, hdp]; exact ⟨rfl, h⟩); clear hQ ht hs hdp hc
  go_enter Tryz.func12, Tryz.ntmps12
  go_upto_region 1 with (fail)
  rw [HRR.out, HWA.out]
  go_wp2_with fail
  refine J.out.mono ?_
  rintro e w1 ⟨rfl, o1⟩; have HR1 := hid (kB o1 HRA.out (fun h => h)); have HE := hid (fun w' (o : Only (fun k => k = R) w1 w') => HP.out w' ((HOA.out.trans o1).trans' o (fun q hq e => by have e : q = R := e; omega))); clear o1
  go_wp2_with ((refine wpList_store_box (o := ⟨none, _, _, _, _, _⟩) rfl 26 (.tmp 2) (.tmp 21) (by rfl) R [.slice none 0 0, .slice none 0 0] [.slice none 0 0, .slice none 0 0] (by rfl) (by rfl) HR1.out (by rfl) (by kernel_rfl) (by intro u hu; simp at hu; subst hu; rfl) ?_; intro w9 k1 k2))
  obtain ⟨y0, y1, -⟩ := boxN2 k1; exact bodyPost_ret (v := .tuple #[.agg #[.slice none 0 0, .slice none 0 0], .int .i64 (a : Int), .int .i64 (c : Int)]) (by simp [results, Tryz.results12, go_sem, y0, y1]) rfl (HE.out w9 k2)
 | ok ts =>
  obtain ⟨tot, htt⟩ := eX (docS true ⟨[], []⟩ ts); have hdp : docP s.data.toList = docG tot := by rw [docP_toks ht, htt]
  rw [ht] at J; have HW := hid (toks_words ht); obtain ⟨he, hl⟩ := toks_end ht; have hfo : ∀ d rest w' a1 c1 a2 c2, tot = .ok d rest → CellsAt w' (fun q => w.heap.size ≤ q) (docC d) [.slice a1 d.ops.length c1, .slice a2 d.frags.length c2] → Only (fun _ => False) w w' → Q (.returned (.tuple #[.agg #[.slice a1 d.ops.length c1, .slice a2 d.frags.length c2], .int .i64 0, .int .i64 0])) w' := fun d rest w' a1 c1 a2 c2 h1 h2 h3 => by
   rw [← hQ, hdp, h1]; exact ⟨a1, c1, a2, c2, rfl, h2, h3⟩
  have hfb : ∀ a c w', tot = .bad a c → Only (fun _ => False) w w' → Q (.returned (.tuple #[.agg #[.slice none 0 0, .slice none 0 0], .int .i64 (a : Int), .int .i64 (c : Int)])) w' := fun a c w' h1 h3 => by
   rw [← hQ, hdp, h1]; exact ⟨rfl, h3⟩
  have FO := hid hfo; have FB := hid hfb; have HE := hid he; have HL := hid hl; have HR := hid htt; clear hQ ht hs he hl htt hdp hfo hfb
  go_enter Tryz.func12, Tryz.ntmps12
  go_upto_region 1 with (fail)
  rw [HRR.out, HWA.out]; clear HWA
  go_wp2_with fail
  refine J.out.mono ?_
  rintro e w1 ⟨v, rfl, hv, o1⟩; have hpos : 0 < ts.length := by have h1 := HE.out; cases ts with | nil => exact h1.elim | cons t u => simp
  obtain ⟨g, cg, rfl, hgB, hgz, -⟩ := own_range hv hpos; have htr := TRow.of_own hv hpos; obtain ⟨b, hb⟩ := eX (w1.heap.size); obtain ⟨w2, hw2⟩ := eX (w1.alloc (.cells #[.slice (some ⟨g, 0, none⟩) ts.length cg, .int .i64 0, .int .i64 0, .int .i64 0, .int .i64 0] 71)); have oa2 : Only (fun _ => False) w1 w2 := by rw [← hw2]; exact (Only.refl _ w1).alloc _
  have hb2 : w2.heap[b]? = some (.cells #[.slice (some ⟨g, 0, none⟩) ts.length cg, .int .i64 0, .int .i64 0, .int .i64 0, .int .i64 0] 71 (0, 0)) := by rw [← hw2, ← hb]; exact heap_new _ _
  obtain ⟨D, hD⟩ := eX (w2.heap.size); obtain ⟨w3, hw3⟩ := eX (w2.alloc (.cells #[.slice none 0 0, .slice none 0 0] 26)); have oa3 : Only (fun _ => False) w1 w3 := by rw [← hw3]; exact oa2.alloc _
  have hd3 : w3.heap[D]? = some (.cells #[.slice none 0 0, .slice none 0 0] 26 (0, 0)) := by rw [← hw3, ← hD]; exact heap_new _ _
  have hRz := (gE HRA.out).1; have hRb : R < b := by have := o1.size; omega
  have hbD : b < D := by rw [← hw2, World.size_alloc] at hD; omega
  have hR3 := ((o1.trans oa3).block R hRz (fun h => h)).trans HRA.out; obtain ⟨all, hall⟩ := eX ((⟨ts, 0⟩ : RL)); have hrd : Rf w3 b all (.ok () ts) := by
   rw [← hall]; exact ⟨0, 0, 0, 0, ⟨⟨g, 0, cg, by rw [← hw3]; exact heap_old hb2 _, htr.still oa3, by omega⟩, by show ts.length ≤ _; have := HL.out; omega, HW.out⟩, rfl, rfl, HE.out, 0, rfl, rfl, by show 0 + ts.length = ts.length; omega⟩
  have HDP := hid (show all.dp = 0 by rw [← hall]); have HAD := hid (show all.dp + 24 = 24 by rw [← hall]); have HI := hid (show DF w b D R all tot true w3 (.ok () ts) (.slice none 0 0) (.slice none 0 0) [] [] from ⟨hrd, hd3, hR3, OwnTwo.nil _ _ _ _ _ _, (HOA.out.trans o1).trans oa3, fun u r e => by injection e with _ e; subst e; exact ⟨by have := HL.out; simp; omega, ⟨[], []⟩, rfl, rfl, HR.out.symm⟩, fun a e h => by cases h⟩); have HB := hid hb; have HW2 := hid hw2; have HD := hid hD; have HW3 := hid hw3; clear hb hw2 oa2 hb2 hrd htr hv o1 hgB hgz hpos J HE HL HW HR HRR HRA HOA hall hD hw3 oa3 hd3 hRz hR3
  go_upto_region 5 with (fail)
  rw [HB.out, HW2.out]; clear HB HW2
  go_upto_region 6 with (fail)
  rw [HD.out, HW3.out]; clear HD HW3
  go_wp2_with fail
  go_loopw [10] (fun v10 wr => ∃ first : Bool, v10 = .bool first ∧ Hid (∃ σ vO vF os fs, DF w b D R all tot first wr σ vO vF os fs)) (fun _ wr => muF wr b all)
  case atStart => exact ⟨true, rfl, hid ⟨_, _, _, _, _, HI.out⟩⟩
  case round =>
   obtain ⟨first, rfl, hrel⟩ := hrel; obtain ⟨σ, vO, vF, os, fs, hdf⟩ := hrel.out; obtain ⟨aK, cK, eK, gK1, gK2, gK3⟩ := hdf.own.left.form; obtain ⟨aL, cL, eL, fL1, fL2, fL3⟩ := hdf.own.right.form; subst eK; subst eL; have gK2n : cK ≤ 9223372036854775807 := by unfold maxLen at gK2; omega
   have fL2n : cL ≤ 9223372036854775807 := by unfold maxLen at fL2; omega
   have HDF := hid hdf; have HFK := hid gK3; have HFL := hid fL3; have HDL := hid (gE hdf.box).1; obtain ⟨e0, ce, cz, hσ⟩ := hdf.rd.err; clear hdf gK2 gK3 fL2 fL3 hrel HI
   rcases hσ with ⟨rr, rfl, rfl⟩ | ⟨ab, rfl, he0⟩
   rotate_left
   ·-- a fault
    obtain ⟨rfl, htl⟩ := HDF.out.bad _ _ rfl; have t1 : ((e0 : Int) == 0) = false := by simp; omega
    have t2 : ((e0 : Int) != 0) = true := by simp; omega
    obtain ⟨_, vv, i, dv, hbb⟩ := HDF.out.rd.bad_block; have HBB := hid hbb; have HRS := hid HDF.out.res; have HEND := hid (fun wz (o : Only (fun k => k = R) wr wz) => FB.out ab e0 wz htl (HDF.out.only.trans' o (fun q hq e => by have e : q = R := e; omega))); clear htl he0 hbb
    go_upto_region 32 with (fail)
    clear ce cz; refine wp_region_stepsM 11 (by kernel_rfl) rfl (by kernel_rfl) [some 126, some 127, some 128, some 129, some 130, some 131, some 132, some 133, some 134, none, some 3] rfl rfl 9 12 (fun q => q = R) (fun _ => False) [10, 11] (by kernel_rfl) [0] (by kernel_rfl) (by decide) (by decide) (.inl (by decide)) [(fun v _ => v = (.agg #[.slice none 0 0, .slice none 0 0])), (fun v _ => v = (.pointer (some ⟨b, 0, none⟩))), (fun v _ => v = (.pointer (some ⟨b, 0, none⟩))), (fun v _ => v = (.pointer (some ⟨b, 3, none⟩))), (fun v _ => v = (.int .i64 (ab : Int))), (fun v _ => v = (.pointer (some ⟨b, 0, none⟩))), (fun v _ => v = (.pointer (some ⟨b, 0, none⟩))), (fun v _ => v = (.pointer (some ⟨b, 4, none⟩))), (fun v _ => v = (.int .i64 (e0 : Int))), (fun v w2 => w2.heap[R]? = some (.cells #[.slice none 0 0, .slice none 0 0] 26 (0, 0))), (fun v _ => v = (.int .i64 (ab : Int)))] rfl ⟨?_, ?_, ?_, ?_, ?_, ?_, ?_, ?_, ?_, ?_, ?_, trivial⟩ _ rfl ⟨?_, ?_, ?_, ?_, ?_, ?_, ?_, ?_, ?_, ?_, ?_, trivial⟩ ?_
    iterate 9 exact Stable.is _ _
    ·intro v w1 w2 h ho; have ho : Only (fun _ => False) w1 w2 := ho; exact (by exact kB ho h (fun h => h))
    ·exact Stable.is _ _
    ·intro x wx ox hN TT HTT; have ox : Only (fun _ => False) _ wx := ox; unfold StepTo; simp only [putAll, Act.put, zA, zB, zC]; clear hN
     go_wp2_with fail
     exact ⟨rfl, _, rfl, HTT.out _ _ rfl oR⟩
    ·intro x wx ox hN TT HTT; have ox : Only (fun q => (fun q => q = R) q ∨ (fun _ => False) q) _ wx := ox; unfold StepTo; simp only [putAll, Act.put, zA, zB, zC]; clear hN
     go_wp2_with fail
     exact ⟨rfl, _, rfl, HTT.out _ _ rfl oR⟩
    ·intro x wx ox hN TT HTT; have ox : Only (fun q => (fun q => q = R) q ∨ (fun _ => False) q) _ wx := ox; unfold StepTo; simp only [putAll, Act.put, zA, zB, zC, eI (hN.1 rfl)]; clear hN
     go_wp2_with fail
     exact ⟨rfl, _, rfl, HTT.out _ _ rfl oR⟩
    ·intro x wx ox hN TT HTT; have ox : Only (fun q => (fun q => q = R) q ∨ (fun _ => False) q) _ wx := ox; unfold StepTo; simp only [putAll, Act.put, zA, zB, zC, eI (hN.1 rfl)]; clear hN
     go_wp2_with fail
     exact ⟨rfl, _, rfl, HTT.out _ _ rfl oR⟩
    ·intro x wx ox hN TT HTT; have ox : Only (fun q => (fun q => q = R) q ∨ (fun _ => False) q) _ wx := ox; unfold StepTo; simp only [putAll, Act.put, zA, zB, zC, eI (hN.1 rfl)]; clear hN; have hx := (ox.block b (gE HBB.out).1 (fun h => by rcases h with h | h; (have h : b = R := h; omega); exact h)).trans HBB.out; obtain ⟨c0, c1, c2, c3, c4, fz⟩ := boxN5 hx; clear hx
     go_wp2_with fail
     exact ⟨rfl, _, rfl, HTT.out _ _ rfl oR⟩
    ·intro x wx ox hN TT HTT; have ox : Only (fun q => (fun q => q = R) q ∨ (fun _ => False) q) _ wx := ox; unfold StepTo; simp only [putAll, Act.put, zA, zB, zC]; clear hN
     go_wp2_with fail
     exact ⟨rfl, _, rfl, HTT.out _ _ rfl oR⟩
    ·intro x wx ox hN TT HTT; have ox : Only (fun q => (fun q => q = R) q ∨ (fun _ => False) q) _ wx := ox; unfold StepTo; simp only [putAll, Act.put, zA, zB, zC, eI (hN.1 rfl)]; clear hN
     go_wp2_with fail
     exact ⟨rfl, _, rfl, HTT.out _ _ rfl oR⟩
    ·intro x wx ox hN TT HTT; have ox : Only (fun q => (fun q => q = R) q ∨ (fun _ => False) q) _ wx := ox; unfold StepTo; simp only [putAll, Act.put, zA, zB, zC, eI (hN.1 rfl)]; clear hN
     go_wp2_with fail
     exact ⟨rfl, _, rfl, HTT.out _ _ rfl oR⟩
    ·intro x wx ox hN TT HTT; have ox : Only (fun q => (fun q => q = R) q ∨ (fun _ => False) q) _ wx := ox; unfold StepTo; simp only [putAll, Act.put, zA, zB, zC, eI (hN.1 rfl)]; clear hN; have hx := (ox.block b (gE HBB.out).1 (fun h => by rcases h with h | h; (have h : b = R := h; omega); exact h)).trans HBB.out; obtain ⟨c0, c1, c2, c3, c4, fz⟩ := boxN5 hx; clear hx
     go_wp2_with fail
     exact ⟨rfl, _, rfl, HTT.out _ _ rfl oR⟩
    ·intro x wx ox hN TT HTT; have ox : Only (fun _ => False) _ wx := ox; unfold StepTo; simp only [putAll, Act.put, zA, zB, zC, eI (hN.1 rfl)]; clear hN; have hd := kB ox HRS.out (fun h => h)
     go_wp2_with ((refine wpList_store_box (o := ⟨none, _, _, _, _, _⟩) rfl 26 (.tmp 2) (.tmp 126) (by rfl) R [.slice none 0 0, .slice none 0 0] [.slice none 0 0, .slice none 0 0] (by rfl) (by rfl) hd (by rfl) (by kernel_rfl) (by intro u hu; simp at hu; subst hu; rfl) ?_; intro w9 k1 k2))
     exact ⟨rfl, undef, rfl, HTT.out undef _ k1 k2⟩
    ·intro x wx ox hN TT HTT; have ox : Only (fun q => (fun q => q = R) q ∨ (fun _ => False) q) _ wx := ox; have rN : (fun (v : Value) (w2 : World) => w2.heap[R]? = some (.cells #[.slice none 0 0, .slice none 0 0] 26 (0, 0))) (x 9) wx := hN.2.1 rfl; unfold StepTo; simp only [putAll, Act.put, zA, zB, zC, eI (hN.1 rfl), eI (hN.2.2.1 rfl), eI (hN.2.2.2.1 rfl), eI (hN.2.2.2.2.1 rfl), eI (hN.2.2.2.2.2.1 rfl)]; clear hN
     go_wp2_with fail
     exact ⟨rfl, _, rfl, HTT.out _ _ rfl oR⟩
    intro xz wxz oxz hN; have oxz : Only (fun q => (fun q => q = R) q ∨ (fun _ => False) q) _ wxz := oxz; have rN : (fun (v : Value) (w2 : World) => w2.heap[R]? = some (.cells #[.slice none 0 0, .slice none 0 0] 26 (0, 0))) (xz 9) wxz := hN.2.2.2.2.2.2.2.2.2.1; simp only [putAll, Act.put, zA, zB, zC, eI hN.1, eI hN.2.1, eI hN.2.2.1, eI hN.2.2.2.1, eI hN.2.2.2.2.1, eI hN.2.2.2.2.2.1, eI hN.2.2.2.2.2.2.1, eI hN.2.2.2.2.2.2.2.1, eI hN.2.2.2.2.2.2.2.2.1, eI hN.2.2.2.2.2.2.2.2.2.2.1]; clear hN; obtain ⟨y0, y1, -⟩ := boxN2 rN; have HEND2 := hid (HEND.out wxz (((Only.refl _ wr).drew).trans' oxz (fun q _ h => h.elim id (fun h => h.elim)))); have HYZ := hid (And.intro y0 y1); clear y0 y1 rN oxz
    go_wp2_with fail
    obtain ⟨y0, y1⟩ := HYZ.out; exact bodyPost_ret (v := .tuple #[.agg #[.slice none 0 0, .slice none 0 0], .int .i64 (ab : Int), .int .i64 (e0 : Int)]) (by simp [results, Tryz.results12, go_sem, y0, y1]) rfl HEND2.out
   by_cases hstop : first = false ∧ isK 0 rr = true
   ·obtain ⟨rfl, hk⟩ := hstop; have K := hid (fKind_any b all (.ok () rr) 0 wr HDF.out.rd (by decide)); rw [show tst (.ok () rr : PR Unit) (isK 0) = true from hk] at K; obtain ⟨_, acc, hao, haf, htl⟩ := HDF.out.ok _ _ rfl; have htl : tot = .ok acc rr := by rw [htl]; unfold docS; rw [if_neg (by decide), if_pos hk]
    have hlo : os.length = acc.ops.length := by rw [hao, List.length_map]
    have hlf : fs.length = acc.frags.length := by rw [haf, List.length_map]
    have HEND := hid (fun wz (o : Only (fun k => k = R) wr wz) => (show Q (.returned (.tuple #[.agg #[.slice aK os.length cK, .slice aL fs.length cL], .int .i64 0, .int .i64 0])) wz from by
     have hcells : CellsAt wz (fun q => w.heap.size ≤ q) (docC acc) [.slice aK os.length cK, .slice aL fs.length cL] := by
      unfold docC; rw [← hao, ← haf]; have hw := HDF.out.own.only o (fun k h1 h2 e => by have e : k = R := e; omega); exact CellsAt.cons (CellAt.weaken (fun q _ h => by have h : D + 1 ≤ q := h; show w.heap.size ≤ q; omega) _ _ hw.left.cell) (CellsAt.cons (CellAt.weaken (fun q _ h => by have h : D + 1 ≤ q := h; show w.heap.size ≤ q; omega) _ _ hw.right.cell) (CellsAt.nil _ _))
     rw [hlo, hlf] at hcells ⊢
     exact FO.out acc rr wz aK cK aL cL htl hcells (HDF.out.only.trans' o (fun q hq e => by have e : q = R := e; omega))))
    clear hao haf htl hlo hlf hk
    go_wp2_with fail
    refine K.out.mono ?_
    rintro e w3 ⟨rfl, o3⟩; obtain ⟨e9, ce', cz', hσ⟩ := (HDF.out.rd.still o3).err; have he9 : e9 = 0 := by rcases hσ with ⟨_, _, h⟩ | ⟨_, h, _⟩; exact h; cases h
    subst he9; have HEND2 := hid (fun wz (o : Only (fun k => k = R) w3 wz) => HEND.out wz ((o3.mono (T := fun k => k = R) (fun _ _ h => h.elim)).trans o)); have HRS := hid (kB o3 HDF.out.res (fun h => h)); have HBX := hid ((o3.block D HDL.out (fun h => h)).trans HDF.out.box); clear o3 hσ ce cz
    go_upto_region 33 with (fail)
    clear ce' cz'; obtain ⟨d0, d1, dz⟩ := boxN2 HBX.out
    go_wp2_with ((refine wpList_store_box (o := ⟨none, _, _, _, _, _⟩) rfl 26 (.tmp 2) (.tmp 135) (by rfl) R [.slice none 0 0, .slice none 0 0] [.slice aK os.length cK, .slice aL fs.length cL] (by rfl) (by rfl) HRS.out (by rfl) (by kernel_rfl) (by intro u hu; simp at hu; rcases hu with rfl | rfl <;> rfl) ?_; intro w9 k1 k2))
    clear d0 d1 dz; obtain ⟨y0, y1, -⟩ := boxN2 k1; exact bodyPost_ret (v := .tuple #[.agg #[.slice aK os.length cK, .slice aL fs.length cL], .int .i64 0, .int .i64 0]) (by simp [results, Tryz.results12, go_sem, y0, y1]) rfl (HEND2.out w9 k2)
   have hcl : first = true ∨ isK 0 rr = false := by
    cases first with
    | true => exact .inl rfl
    | false => right; cases hk : isK 0 rr with | false => rfl | true => exact absurd ⟨rfl, hk⟩ hstop
   have HCL := hid hcl; have HFEW := hid (show os.length + fs.length + 1 ≤ 1000000 by have h1 := (HDF.out.ok _ _ rfl).1; have h2 := HDF.out.rd.few.2; omega); clear hstop
   go_upto_region 7 with (fail)
   go_cut [39] from 27 to 39 (fun v w' => v = .bool true ∧ Only (fun _ => False) wr w')
   case first =>
    clear HCL HFEW
    cases first with
    | true =>
     go_wp2_with fail
     clear ce cz
     go_meet
     case rel => exact ⟨rfl, oR⟩
    | false =>
     have hk := hcl.resolve_left (by decide); have K := hid (fKind_any b all (.ok () rr) 0 wr HDF.out.rd (by decide)); rw [show tst (.ok () rr : PR Unit) (isK 0) = false from hk] at K; clear hcl hk
     go_wp2_with fail
     refine K.out.mono ?_
     rintro e w20 ⟨rfl, o4⟩; have HO2 := hid o4; clear ce cz o4
     go_wp2_with fail
     go_meet
     case rel => exact ⟨rfl, HO2.out⟩
   case rest =>
   obtain ⟨rfl, ho0⟩ := hcut; obtain ⟨wt, hwt⟩ := eX (wc); rw [hwt] at ho0 ⊢; have T := hid (fWord_any b all (.ok () rr) [102, 114, 97, 103, 109, 101, 110, 116] wt (HDF.out.rd.still ho0)); have HOT := hid ho0; obtain ⟨bb, hb⟩ := eX (tst (.ok () rr : PR Unit) (isW [102, 114, 97, 103, 109, 101, 110, 116])); rw [hb] at T; have HBF := hid (show isW wFragment rr = bb from hb); clear hwt ho0 ce cz hcl hb
   cases bb
   ·
    go_wp2_with fail
    refine T.out.mono ?_
    rintro e w0 ⟨rfl, ou⟩; have h3 := HDF.out.rd.still (HOT.out.trans ou); have HNF := hid (show isT wFragment rr = false from (h3.word 102 [114, 97, 103, 109, 101, 110, 116] (by decide)).trans HBF.out); have hO : Only (fun k => k = b) wr w0 := (HOT.out.trans ou).mono (T := fun k => k = b) (fun _ _ h => h.elim); obtain ⟨σ0, hs0⟩ : ∃ σ : PR Unit, PR.ok () rr = σ := ⟨_, rfl⟩; rw [hs0] at h3; obtain ⟨total, htot⟩ := eX (opdP rr); have hj := Jn.start σ0 opdP; rw [← hs0, show ((PR.ok () rr : PR Unit).bind fun _ => opdP) = total from htot, hs0] at hj; unfold opdP wQuery at hj; have HJ0 := hid hj; have HD0 := hid h3; have HO0 := hid hO; have HTOT := hid htot; clear h3 hO ou hs0 htot hj T HOT; obtain ⟨Y, hY⟩ := eX (w0.heap.size); have HWY := hid (show wr.heap.size ≤ Y by have := HO0.out.size; omega); have hbY : b < Y := by have := HD0.out.lt; omega
    obtain ⟨w1, hw1⟩ := eX (w0.alloc (.cells #[.bool false, .string ⟨#[]⟩, .slice none 0 0, .slice none 0 0] 56)); have hy1 : w1.heap[Y]? = some (.cells #[.bool false, .string ⟨#[]⟩, .slice none 0 0, .slice none 0 0] 56 (0, 0)) := by rw [← hw1, ← hY]; exact heap_new _ _
    have oa1 : Only (fun _ => False) w0 w1 := by rw [← hw1]; exact (Only.refl _ _).alloc _
    have HY1 := hid hy1; have HD1 := hid (HD0.out.still oa1); have HO1 := hid (HO0.out.trans' oa1 (fun q _ e => e.elim)); have HW1 := hid hw1; have HYY := hid hY; have HJ1 := HJ0; clear hy1 hw1 hY oa1 HD0 HO0 HJ0
    go_upto_region 19 with (fail)
    rw [HYY.out, HW1.out]; clear HYY HW1; have J := hid (fSign_any b all σ0 [123] w1 HD1.out); obtain ⟨bb2, hb2⟩ := eX (tst σ0 (isS [123])); rw [hb2] at J; have HBT := hid hb2; clear hb2
    cases bb2
    ·
     go_wp2_with fail
     refine J.out.mono ?_
     rintro e w2 ⟨rfl, o4⟩; have HJ2 := hid (HJ1.out.no HBT.out); have HD2 := hid (HD1.out.still o4); clear HJ1 HBT J; have hy2 := kB o4 HY1.out (fun h => h); have HY2 := hid hy2; have HO2 := hid (HO1.out.trans' o4 (fun q hq e => by exact e.elim)); clear hy2; clear o4; clear HO1 HD1 HY1
     go_upto_region 20 with (fail)
     go_cut [12] from 73 to 75 (fun v w' => v = .pointer (some ⟨Y, 0, none⟩) ∧ DA total wr b Y all w')
     case first =>
      have J := hid (fEat_any b all σ0 [109, 117, 116, 97, 116, 105, 111, 110] w2 HD2.out); unfold tookF at J; obtain ⟨bb3, hb3⟩ := eX (tst σ0 (isT [109, 117, 116, 97, 116, 105, 111, 110])); rw [hb3] at J; have HBT := hid hb3; clear hb3
      cases bb3
      ·
       rw [if_neg (by decide)] at J
       go_wp2_with fail
       refine J.out.mono ?_
       rintro e w3 ⟨rfl, hd, o4⟩; have HJ3 := hid (HJ2.out.no HBT.out); have HD3 := hid hd; clear HJ2 hd HBT J; have hy3 := kB o4 HY2.out (by omega); have HY3 := hid hy3; have HO3 := hid (HO2.out.trans' o4 (fun q hq e => by exact e)); clear hy3; clear o4; clear HO2 HD2 HY2; obtain ⟨y0, y1, y2, y3, yz⟩ := boxN4 HY3.out
       go_upto_region 21 with (fail)
       clear y0 y1 y2 y3 yz; have hy4 := heap_set (o := 0) HY3.out (.bool false); have hy4 : (w3.setCell ⟨Y, 0, none⟩ (.bool false)).heap[Y]? = some (.cells #[.bool false, .string ⟨#[]⟩, .slice none 0 0, .slice none 0 0] 56 (0, 0)) := by simpa using hy4
       have os4 : Only (fun k => k = Y) w3 (w3.setCell ⟨Y, 0, none⟩ (.bool false)) := (Only.refl (fun k => k = Y) _).setCell (p := ⟨Y, 0, none⟩) (.inl rfl) _; obtain ⟨w4, hw4⟩ := eX (w3.setCell ⟨Y, 0, none⟩ (.bool false)); rw [hw4] at hy4 os4; rw [hw4]; clear hw4; have HY4 := hid hy4; have HD4 := hid (HD3.out.only os4 (fun k hk e => by omega)); have HJ4 := HJ3; have HO4 := hid (HO3.out.trans' os4 (fun q hq e => by have e : q = Y := e; have := HWY.out; omega)); clear hy4 os4 HJ3; clear HO3 HD3 HY3; have hjm : Jn total σ0 (fun (_ : Unit) => True) (fun _ r => if false then opN true r else (wantP [113, 117, 101, 114, 121] r).bind fun _ r1 => opN false r1) := Jn.mapK (fun _ => ()) HJ4.out (fun t k => by first | rfl | simp) (fun _ _ => trivial); have HM := hid (show DA total wr b Y all w4 from ⟨false, σ0, HD4.out, HY4.out, HO4.out, hjm⟩); clear hjm HJ4 HD4 HO4 HY4
       go_meet
       case rel => exact ⟨rfl, HM.out⟩
      ·
       rw [if_pos rfl] at J
       go_wp2_with fail
       refine J.out.mono ?_
       rintro e w3 ⟨rfl, hd, o4⟩; have HJ3 := hid (Jn.adv (F := fun (_ : Unit) r => opN true r) (HJ2.out.yes HBT.out)); obtain ⟨σ3, hσ⟩ := eX (adv σ0); rw [hσ] at hd HJ3; clear hσ; have HD3 := hid hd; clear HJ2 hd HBT J; have hy3 := kB o4 HY2.out (by omega); have HY3 := hid hy3; have HO3 := hid (HO2.out.trans' o4 (fun q hq e => by exact e)); clear hy3; clear o4; clear HO2 HD2 HY2; obtain ⟨y0, y1, y2, y3, yz⟩ := boxN4 HY3.out
       go_upto_region 21 with (fail)
       clear y0 y1 y2 y3 yz; have hy4 := heap_set (o := 0) HY3.out (.bool true); have hy4 : (w3.setCell ⟨Y, 0, none⟩ (.bool true)).heap[Y]? = some (.cells #[.bool true, .string ⟨#[]⟩, .slice none 0 0, .slice none 0 0] 56 (0, 0)) := by simpa using hy4
       have os4 : Only (fun k => k = Y) w3 (w3.setCell ⟨Y, 0, none⟩ (.bool true)) := (Only.refl (fun k => k = Y) _).setCell (p := ⟨Y, 0, none⟩) (.inl rfl) _; obtain ⟨w4, hw4⟩ := eX (w3.setCell ⟨Y, 0, none⟩ (.bool true)); rw [hw4] at hy4 os4; rw [hw4]; clear hw4; have HY4 := hid hy4; have HD4 := hid (HD3.out.only os4 (fun k hk e => by omega)); have HJ4 := HJ3; have HO4 := hid (HO3.out.trans' os4 (fun q hq e => by have e : q = Y := e; have := HWY.out; omega)); clear hy4 os4 HJ3; clear HO3 HD3 HY3; have hjm : Jn total σ3 (fun (_ : Unit) => True) (fun _ r => if true then opN true r else (wantP [113, 117, 101, 114, 121] r).bind fun _ r1 => opN false r1) := Jn.mapK (fun _ => ()) HJ4.out (fun t k => by first | rfl | simp) (fun _ _ => trivial); have HM := hid (show DA total wr b Y all w4 from ⟨true, σ3, HD4.out, HY4.out, HO4.out, hjm⟩); clear hjm HJ4 HD4 HO4 HY4
       go_meet
       case rel => exact ⟨rfl, HM.out⟩
     case rest =>
     obtain ⟨rfl, hcut⟩ := hcut; obtain ⟨w10, hw10⟩ := eX (wc); rw [hw10] at hcut ⊢; clear hw10; obtain ⟨m, σ10, hd, hy, ho, hj⟩ := hcut; clear HJ2 HD2 HO2 HY2; have HJ10 := hid hj; have HY10 := hid hy; have HO10 := hid ho; have HD10 := hid hd; clear hj hy ho hd; obtain ⟨y0, y1, y2, y3, yz⟩ := boxN4 HY10.out
     go_upto_if 78 with (fail)
     clear y0 y1 y2 y3 yz
     go_cut [12] from 79 to 80 (fun v w' => v = .pointer (some ⟨Y, 0, none⟩) ∧ DB total wr b Y all w')
     case first =>
      cases m with
      | true =>
       go_wp2_with fail
       have hjm : Jn total σ10 (fun (_ : Unit) => True) (fun _ => opN true) := Jn.mapK (fun _ => ()) HJ10.out (fun t k => by first | rfl | simp) (fun _ _ => trivial); have HM := hid (show DB total wr b Y all w10 from ⟨true, σ10, HD10.out, HY10.out, HO10.out, hjm⟩); clear hjm HJ10 HD10 HO10 HY10
       go_meet
       case rel => exact ⟨rfl, HM.out⟩
      | false =>
       have hj := Jn.mapK (K' := fun (_ : Unit) => True) (F' := fun (_ : Unit) r => (wantP [113, 117, 101, 114, 121] r).bind fun _ r1 => opN false r1) (fun _ => ()) HJ10.out (fun t k => by first | rfl | simp) (fun _ _ => trivial); clear HJ10; have HJ10 := hid hj; clear hj; have J := hid (fword_any b all σ10 113 [117, 101, 114, 121] (by decide) w10 HD10.out)
       go_wp2_with fail
       refine J.out.mono ?_
       rintro e w11 ⟨rfl, hd, o4⟩; have hv : ∀ x q, (σ10.bind fun _ => wantP [113, 117, 101, 114, 121]) = .ok x q → True := fun _ _ _ => trivial
       obtain ⟨σ11, hσ⟩ := eX ((σ10.bind fun _ => wantP [113, 117, 101, 114, 121]).unit); rw [hσ] at hd; have hj := Jn.call (fun _ => True) HJ10.out hσ.symm hv; have HJ11 := hid hj; have HD11 := hid hd; clear hj hd hv hσ HJ10 J; have hy11 := kB o4 HY10.out (by omega); have HY11 := hid hy11; have HO11 := hid (HO10.out.trans' o4 (fun q hq e => by exact e)); clear hy11; clear o4; clear HO10 HD10 HY10
       go_wp2_with fail
       have hjm : Jn total σ11 (fun (_ : Unit) => True) (fun _ => opN false) := Jn.mapK (fun _ => ()) HJ11.out (fun t k => by first | rfl | simp) (fun _ _ => trivial); have HM := hid (show DB total wr b Y all w11 from ⟨false, σ11, HD11.out, HY11.out, HO11.out, hjm⟩); clear hjm HJ11 HD11 HO11 HY11
       go_meet
       case rel => exact ⟨rfl, HM.out⟩
     case rest =>
     obtain ⟨rfl, hcut⟩ := hcut; obtain ⟨w20, hw20⟩ := eX (wc); rw [hw20] at hcut ⊢; clear hw20; obtain ⟨m, σ20, hd, hy, ho, hj⟩ := hcut; clear HJ10 HD10 HO10 HY10; have HJ20 := hid hj; have HY20 := hid hy; have HO20 := hid ho; have HD20 := hid hd; clear hj hy ho hd; have HJu := HJ20.out; unfold opN at HJu; clear HJ20; have HJ20 := hid HJu; clear HJu; have J := hid (fKind_any b all σ20 1 w20 HD20.out (by decide)); obtain ⟨bb21, hb21⟩ := eX (tst σ20 (isK 1)); rw [hb21] at J; have HBT := hid hb21; clear hb21
     go_wp2_with fail
     refine J.out.mono ?_
     rintro e w21 ⟨rfl, o4⟩; have HJ21 := HJ20; have HD21 := hid (HD20.out.still o4); clear HJ20 J; have hy21 := kB o4 HY20.out (fun h => h); have HY21 := hid hy21; have HO21 := hid (HO20.out.trans' o4 (fun q hq e => by exact e.elim)); clear hy21; clear o4; clear HO20 HD20 HY20
     go_upto_if 82 with (fail)
     go_cut [12] from 83 to 85 (fun v w' => v = .pointer (some ⟨Y, 0, none⟩) ∧ DC1 total wr b Y all w')
     case first =>
      cases bb21
      ·
       have HJ22 := hid (HJ21.out.no HBT.out); have HD22 := HD21; have HO22 := HO21; have HY22 := HY21; obtain ⟨w22, hw22⟩ := eX (w21); rw [hw22] at HD22 HO22 HY22 ⊢; clear HJ21 HBT HD21 HO21 HY21 hw22
       go_wp2_with fail
       have hjm : Jn total σ20 (fun (_ : Unit) => True) (fun _ => opV m []) := Jn.mapK (fun _ => ()) HJ22.out (fun t k => by first | rfl | simp) (fun _ _ => trivial); have HM := hid (show DC1 total wr b Y all w22 from ⟨m, [], σ20, HD22.out, HY22.out, HO22.out, hjm⟩); clear hjm HJ22 HD22 HO22 HY22
       go_meet
       case rel => exact ⟨rfl, HM.out⟩
      ·
       have HJ22 := hid (HJ21.out.yes HBT.out); have HD22 := HD21; have HO22 := HO21; have HY22 := HY21; obtain ⟨w22, hw22⟩ := eX (w21); rw [hw22] at HD22 HO22 HY22 ⊢; clear HJ21 HBT HD21 HO21 HY21 hw22; have J := hid (fName_any b all σ20 w22 HD22.out)
       go_wp2_with fail
       refine J.out.mono ?_
       rintro e w23 ⟨v, rfl, ⟨s23, rfl⟩, hd, hv, o4⟩; have hv : ∀ x q, (σ20.bind fun _ => nameP) = .ok x q → s23 = x := fun x q e => strF_inj (hv x q e)
       obtain ⟨σ23, hσ⟩ := eX ((σ20.bind fun _ => nameP).unit); rw [hσ] at hd; have hj := Jn.call (fun x => s23 = x) HJ22.out hσ.symm hv; have HJ23 := hid hj; have HD23 := hid hd; clear hj hd hv hσ HJ22 J; have hy23 := kB o4 HY22.out (by omega); have HY23 := hid hy23; have HO23 := hid (HO22.out.trans' o4 (fun q hq e => by exact e)); clear hy23; clear o4; clear HO22 HD22 HY22; obtain ⟨y0, y1, y2, y3, yz⟩ := boxN4 HY23.out
       go_upto_region 25 with (fail)
       clear y0 y1 y2 y3 yz; have hy24 := heap_set (o := 1) HY23.out (.string ⟨s23.toArray⟩); have hy24 : (w23.setCell ⟨Y, 1, none⟩ (.string ⟨s23.toArray⟩)).heap[Y]? = some (.cells #[.bool m, .string ⟨s23.toArray⟩, .slice none 0 0, .slice none 0 0] 56 (0, 0)) := by simpa using hy24
       have os24 : Only (fun k => k = Y) w23 (w23.setCell ⟨Y, 1, none⟩ (.string ⟨s23.toArray⟩)) := (Only.refl (fun k => k = Y) _).setCell (p := ⟨Y, 1, none⟩) (.inl rfl) _; obtain ⟨w24, hw24⟩ := eX (w23.setCell ⟨Y, 1, none⟩ (.string ⟨s23.toArray⟩)); rw [hw24] at hy24 os24; rw [hw24]; clear hw24; have HY24 := hid hy24; have HD24 := hid (HD23.out.only os24 (fun k hk e => by omega)); have HJ24 := HJ23; have HO24 := hid (HO23.out.trans' os24 (fun q hq e => by have e : q = Y := e; have := HWY.out; omega)); clear hy24 os24 HJ23; clear HO23 HD23 HY23; have hjm : Jn total σ23 (fun (_ : Unit) => True) (fun _ => opV m s23) := Jn.mapK (fun _ => ()) HJ24.out (fun t k => by rw [k.2]) (fun _ _ => trivial); have HM := hid (show DC1 total wr b Y all w24 from ⟨m, s23, σ23, HD24.out, HY24.out, HO24.out, hjm⟩); clear hjm HJ24 HD24 HO24 HY24
       go_meet
       case rel => exact ⟨rfl, HM.out⟩
     case rest =>
     obtain ⟨rfl, hcut⟩ := hcut; obtain ⟨w30, hw30⟩ := eX (wc); rw [hw30] at hcut ⊢; clear hw30; obtain ⟨m, sn, σ30, hd, hy, ho, hj⟩ := hcut; have HJ30 := hid hj; have HY30 := hid hy; have HO30 := hid ho; have HD30 := hid hd; clear HJ21 HD21 HO21 HY21; have T := hid (fEat_any b all σ30 [40] w30 hd); unfold tookF at T; obtain ⟨bb, hb⟩ := eX (tst σ30 (isT [40])); rw [hb] at T; have HBS := hid (show tst σ30 (isS [40]) = bb by rw [← hd.sign 40 [] (by decide)]; exact hb); clear hj hy ho hd hb; unfold opV at HJ30
     cases bb
     ·rw [if_neg (by decide)] at T
      go_wp2_with fail
      refine T.out.mono ?_
      rintro e w31 ⟨rfl, hd, o4⟩; have HJ31 := hid (HJ30.out.no HBS.out); have HD31 := hid hd; clear HJ30 hd HBS T; have hy31 := kB o4 HY30.out (by omega); have HY31 := hid hy31; have HO31 := hid (HO30.out.trans' o4 (fun q hq e => by exact e)); clear hy31; clear o4; clear HO30 HD30 HY30; have HJu := HJ31.out; unfold opS at HJu; clear HJ31; have HJ31 := hid HJu; clear HJu; have J := hid (fset_any 24 b all σ30 w31 HAD.out HD31.out)
      go_wp2_with fail
      refine J.out.mono ?_
      rintro e w32 ⟨v, rfl, ⟨ar32, lr32, cr32, rfl⟩, hd, hv, o4⟩; have hsy : Y < w31.heap.size := (gE HY31.out).1; have hv : ∀ x q, (σ30.bind fun _ => (setP 24)) = .ok x q → CellAt w32 (fun q => Y < q) (.row 7 (x.map selC)) (.slice ar32 lr32 cr32) := fun x q e => CellAt.weaken (fun q _ h => by have h : w31.heap.size ≤ q := h; show Y < q; omega) _ _ (hv x q e)
      obtain ⟨σ32, hσ⟩ := eX ((σ30.bind fun _ => (setP 24)).unit); rw [hσ] at hd; have hj := Jn.call (fun x => CellAt w32 (fun q => Y < q) (.row 7 (x.map selC)) (.slice ar32 lr32 cr32)) HJ31.out hσ.symm hv; have HJ32 := hid hj; have HD32 := hid hd; clear hj hd hv hσ HJ31 J hsy; have hy32 := kB o4 HY31.out (by omega); have HY32 := hid hy32; have HO32 := hid (HO31.out.trans' o4 (fun q hq e => by exact e)); clear hy32; have HC32_32 := hid (Only.refl (fun k => k ≤ Y) w32); clear o4; clear HO31 HD31 HY31; obtain ⟨y0, y1, y2, y3, yz⟩ := boxN4 HY32.out
      go_upto_region 30 with (fail)
      clear y0 y1 y2 y3 yz; have hy33 := heap_set (o := 3) HY32.out (.slice ar32 lr32 cr32); have hy33 : (w32.setCell ⟨Y, 3, none⟩ (.slice ar32 lr32 cr32)).heap[Y]? = some (.cells #[.bool m, .string ⟨sn.toArray⟩, .slice none 0 0, .slice ar32 lr32 cr32] 56 (0, 0)) := by simpa using hy33
      have os33 : Only (fun k => k = Y) w32 (w32.setCell ⟨Y, 3, none⟩ (.slice ar32 lr32 cr32)) := (Only.refl (fun k => k = Y) _).setCell (p := ⟨Y, 3, none⟩) (.inl rfl) _; obtain ⟨w33, hw33⟩ := eX (w32.setCell ⟨Y, 3, none⟩ (.slice ar32 lr32 cr32)); rw [hw33] at hy33 os33; rw [hw33]; clear hw33; have HY33 := hid hy33; have HD33 := hid (HD32.out.only os33 (fun k hk e => by omega)); have HJ33 := HJ32; have HC32_33 := hid (HC32_32.out.trans' os33 (fun q hq e => by have e : q = Y := e; show q ≤ Y; omega)); have HO33 := hid (HO32.out.trans' os33 (fun q hq e => by have e : q = Y := e; have := HWY.out; omega)); clear hy33 os33 HJ32; clear HO32 HD32 HY32 HC32_32; obtain ⟨hdn, hxs⟩ := HJ33.out.done; have o32 := HC32_33.out; have hvc : ∀ x q, total = .ok x q → CellsAt w33 (fun q => Y < q ∧ q < w33.heap.size) (opC x) [.bool m, .string ⟨sn.toArray⟩, .slice none 0 0, .slice ar32 lr32 cr32] := fun x q e => by
       obtain ⟨⟨u, sb⟩, rfl, ⟨-, k9⟩⟩ := hxs x q e; exact CellsAt.lit rfl (CellsAt.lit rfl (CellsAt.cons (CellAt.nilRow _ _ _) (CellsAt.cons (CellAt.weaken (G' := fun q => Y < q ∧ q < w33.heap.size) (fun q hq h => ⟨h, hq⟩) _ _ (CellAt.only o32 (fun k hk e => by have hk : Y < k := hk; have e : k ≤ Y := e; omega) _ _ k9)) (CellsAt.nil _ _))))
      have hdz : Rf w33 b all total.unit := by rw [← hdn]; exact HD33.out
      obtain ⟨row, hrow, hrx⟩ := elem_row (P := total) (enc := opC) (ys := [.bool m, .string ⟨sn.toArray⟩, .slice none 0 0, .slice ar32 lr32 cr32]) hvc (by intro u hu; simp at hu; rcases hu with rfl | rfl | rfl | rfl <;> rfl); have HDZ := hid hdz; have HROW := hid hrow; have HRX := hid hrx; clear hdn hxs hvc hdz hrow hrx HD33 HJ33 o32; obtain ⟨G, hG⟩ := eX (w33.heap.size); obtain ⟨wA, hwa⟩ := eX (w33.alloc (.cells #[.bool m, .string ⟨sn.toArray⟩, .slice none 0 0, .slice ar32 lr32 cr32] 56)); have og : Only (fun _ => False) w33 wA := by rw [← hwa]; exact (Only.refl _ _).alloc _
      have hgg : wA.heap[G]? = some (.cells #[.bool m, .string ⟨sn.toArray⟩, .slice none 0 0, .slice ar32 lr32 cr32] 56 (0, 0)) := by rw [← hwa, ← hG]; exact heap_new _ _
      have hgs : G + 1 = wA.heap.size := by rw [← hwa, World.size_alloc, hG]
      have hgw : wr.heap.size ≤ G := by have := HO33.out.size; omega
      have HOA := hid (HO33.out.trans' og (fun q _ e => e.elim)); have HW := hid (HDF.out.own.only HOA.out (fun k h1 h2 e => by have e : k = b := e; omega)); have HRA := hid (show CellsAt wA (fun q => (D + 1 ≤ q ∧ (Value.slice aK os.length cK).ownBlock ≠ some q ∧ q < wA.heap.size) ∧ (Value.slice aL fs.length cL).ownBlock ≠ some q) row [.bool m, .string ⟨sn.toArray⟩, .slice none 0 0, .slice ar32 lr32 cr32] from CellsAt.weaken (fun q hq h => by have h1 : Y < q := h.1; have := HWY.out; have := HDL.out; exact ⟨⟨by omega, fun e => by have := (HFK.out q e).2; omega, hq⟩, fun e => by have := (HFL.out q e).2; omega⟩) _ _ (CellsAt.only og (fun _ _ h => h) _ _ HROW.out)); have HDA := hid (HDZ.out.still og); have HBn := hid ((HO33.out.block D HDL.out (by omega)).trans HDF.out.box); have HBA := hid ((HOA.out.block D HDL.out (by omega)).trans HDF.out.box); have HRS := hid ((HOA.out.block R (gE HDF.out.res).1 (by omega)).trans HDF.out.res); obtain ⟨xs, p1', p2'⟩ := HW.out.swap.l; have hys : ∀ j u, ([.bool m, .string ⟨sn.toArray⟩, .slice none 0 0, .slice ar32 lr32 cr32] : List Value)[j]? = some u → wA.cell? ((⟨G, 0, none⟩ : Addr).add j) = some u := fun j u hu => by rw [addr_add]; exact range_of_block (cs := [.bool m, .string ⟨sn.toArray⟩, .slice none 0 0, .slice ar32 lr32 cr32]) hgg j u hu
      have hone : ∀ u ∈ ([.bool m, .string ⟨sn.toArray⟩, .slice none 0 0, .slice ar32 lr32 cr32] : List Value), u.oneCell' = true := by intro u hu; simp at hu; rcases hu with rfl | rfl | rfl | rfl <;> rfl
      have HYS := hid hys; have HONE := hid hone; have HP1 := hid p1'; have HP2 := hid p2'; have HG := hid hG; have HWA := hid hwa; have HGS := hid hgs; have HGW := hid hgw; clear hys hone p1' p2' hG hwa hgs hgg og hgw; obtain ⟨y0, y1, y2, y3, yz⟩ := boxN4 HY33.out; obtain ⟨c0, c1, cz⟩ := boxN2 HBn.out
      go_wp2_with ((rw [HG.out, HWA.out]; refine wpList_append_own2 (o := ⟨some 119, _, _, _, _, _⟩) rfl (.tmp 116) (.tmp 118) 23 56 (by rfl) Tryz.underlying23 infoOp rfl (by decide) (D + 1) (.slice aK os.length cK) os.length 1 1 xs [.bool m, .string ⟨sn.toArray⟩, .slice none 0 0, .slice ar32 lr32 cr32] ⟨G, 0, none⟩ (by rfl) (by rfl) HP1.out (by rfl) HYS.out HONE.out (by have := HFEW.out; unfold maxLen; omega) (by have := HFEW.out; omega) (by have := HGS.out; have := HGW.out; have := HDL.out; omega) ?_; intro v' wZ q1 q2 q3; obtain ⟨aN, cN, eN, gL1, gL2, -⟩ := own_form q1; subst eN; clear c0 c1 cz y0 y1 y2 y3 yz; obtain ⟨c0, c1, cz⟩ := boxN2 ((q2.block D (gE HBA.out).1 (fun e => by have := (HFK.out D e).1; omega)).trans HBA.out)))
      have hF := HFK.out; have hrow2 := (OwnTwo.append HW.out.swap HP1.out HP2.out rfl HRA.out q1 q2 q3).swap; have hdd := HDA.out.only q2 (fun k hk h => by have := (hF k h).1; omega); have hbx := (q2.block D (gE HBA.out).1 (fun e => by have := (hF D e).1; omega)).trans HBA.out; have hrs := (q2.block R (gE HRS.out).1 (fun e => by have := (hF R e).1; omega)).trans HRS.out; have hoo : Only (fun _ => False) w wZ := (HDF.out.only.trans' HOA.out (fun q hq e => by have e : q = b := e; omega)).trans' q2 (fun q hq h => by have := (hF q h).1; omega); have oy : Only (fun k => k = D) wZ (wZ.setCell ⟨D, 0, none⟩ (.slice aN (os.length + 1) cN)) := (Only.refl (fun k => k = D) wZ).setCell (p := ⟨D, 0, none⟩) (.inl rfl) _; have hB6 := heap_set (o := 0) hbx (.slice aN (os.length + 1) cN); have hB6 : (wZ.setCell ⟨D, 0, none⟩ (.slice aN (os.length + 1) cN)).heap[D]? = some (.cells #[.slice aN (os.length + 1) cN, .slice aL fs.length cL] 26 (0, 0)) := by simpa using hB6
      have hd9 := hdd.only oy (fun k hk e => by have e : k = D := e; omega); have hpos := HDF.out.rd.few.2; obtain ⟨hfew, acc, hao, haf, htl⟩ := HDF.out.ok _ _ rfl; rw [doc_step HCL.out, defP_op acc HNF.out, HTOT.out] at htl; have hnew : DF w b D R all tot false (wZ.setCell ⟨D, 0, none⟩ (.slice aN (os.length + 1) cN)) total.unit (.slice aN (os.length + 1) cN) (.slice aL fs.length cL) (os ++ [row]) fs := by
       refine ⟨hd9, hB6, kB oy hrs (by omega), hrow2.only oy (fun k h1 h2 e => by have e : k = D := e; omega), hoo.trans' oy (fun q hq e => by have e : q = D := e; omega), fun u r e => ?_, fun a e h => ⟨rfl, ?_⟩⟩
       ·cases hq : total with
        | bad a e' => rw [hq] at e; cases e
        | ok x r2 =>
         rw [hq] at e htl
         injection e with _ e; subst e
         have hl := opdP_takes _ _ _ (HTOT.out.trans hq); exact ⟨by simp only [List.length_append, List.length_singleton]; omega, ⟨acc.ops ++ [x], acc.frags⟩, by rw [hao, HRX.out x _ hq, List.map_append]; rfl, haf, htl⟩
       ·cases hq : total with
        | bad a' e' => rw [hq] at h htl; injection h with h1 h2; subst h1; subst h2; exact htl
        | ok x r2 => rw [hq] at h; cases h
      have hmu : muF (wZ.setCell ⟨D, 0, none⟩ (.slice aN (os.length + 1) cN)) b all < muF wr b all := by
       rw [muF_ok HDF.out.rd]
       cases hq : total with
       | bad p q => rw [hq] at hd9; rw [muF_bad hd9]; omega
       | ok x r2 => rw [hq] at hd9; rw [muF_ok (u := ()) hd9]; have hl := opdP_takes _ _ _ (HTOT.out.trans hq); omega
      have HNEW := hid hnew; have HMU := hid hmu; clear hnew hmu htl hao haf hfew hoo hdd hd9 hB6 hbx hrs oy hrow2 q1 q2 q3 gL1 gL2 hF HRA HDA HBA HBn HRS HOA HW HO33 HY33 hpos
      go_wp2_with fail
      go_roundw
      case rel => first | exact ⟨false, rfl, hid ⟨_, _, _, _, _, HNEW.out⟩⟩ | ((repeat apply Exists.intro); refine ⟨?_, rfl⟩; exact ⟨false, rfl, hid ⟨_, _, _, _, _, HNEW.out⟩⟩)
      case measure => exact HMU.out
     ·rw [if_pos rfl] at T; obtain ⟨rx, rfl, hrx⟩ := tst_ok HBS.out
      go_wp2_with fail
      refine T.out.mono ?_
      rintro e w31 ⟨rfl, hd, o4⟩; have hj := Jn.adv (F := fun (_ : Unit) r => (manyP varP [41] (r.length + 1) [] r).bind fun vs r3 => opS m sn vs r3) (HJ30.out.yes HBS.out); obtain ⟨r0, hr0⟩ := eX (rx.tail); have hd : Rf w31 b all (.ok () r0) := by rw [← hr0]; exact hd
      have hj : Jn total (.ok () r0) (fun (_ : Unit) => True) (fun _ r => (manyP varP [41] (r.length + 1) [] r).bind fun vs r3 => opS m sn vs r3) := by rw [← hr0]; exact hj
      have HY31 := hid (kB o4 HY30.out (by omega)); have HO31 := hid (HO30.out.trans o4); have HJ31 := hid hj; have HD31 := hid hd; clear HJ30 HBS T hrx hr0 hd hj o4 HD30 HO30 HY30; obtain ⟨wl, hwl⟩ := eX (w31); rw [hwl] at HY31 HO31 HD31 ⊢; clear hwl; obtain ⟨tl, htl⟩ := eX (loopP varP [41] true [] r0); have htl2 : ((PR.ok () r0 : PR Unit).bind fun _ => (fun r => manyP varP [41] (r.length + 1) [] r)) = tl := by rw [← htl]; exact manyP_loop varP_takes _ _ _ (by omega)
      have hls : LS varP [41] tl true 0 (fun acc => ([] : List (List Cell)) = acc.map vdC) (.ok () r0) := by
       rw [← htl]; exact LS.start (p := varP) (c := [41]) true (K := fun acc => ([] : List (List Cell)) = acc.map vdC) rfl (σ := .ok () r0) (fun u r e => by injection e with _ e; subst e; exact HD31.out.few.1)
      have hYl : Y < wl.heap.size := (gE HY31.out).1; have hdv : DV tl wr wl b Y all m sn true (.ok () r0) wl [] (.slice none 0 0) := ⟨HD31.out, HY31.out, OwnRow.nil _ _ _ _, HO31.out, oR, hls⟩; have HEX : ∀ (wz : World) (σz : PR Unit) (rv : List (List Cell)) (aV : Option Addr) (cV : Nat), Rf wz b all σz → σz = tl.unit → (∀ x q, tl = .ok x q → rv = x.map vdC) → OwnRow wz wl.heap.size 60 10 (.slice aV rv.length cV) rv → Jn total σz (fun (p : Unit × List VD) => True ∧ CellAt wz (fun q => Y < q) (.row 10 (p.2.map vdC)) (.slice aV rv.length cV)) (fun p r => opS m sn p.2 r) := fun wz σz rv aV cV q1 q2 q3 q4 => by
       have hs : σz = ((PR.ok () r0 : PR Unit).bind fun _ => (fun r => manyP varP [41] (r.length + 1) [] r)).unit := by rw [htl2]; exact q2
       have hv : ∀ x q, ((PR.ok () r0 : PR Unit).bind fun _ => (fun r => manyP varP [41] (r.length + 1) [] r)) = .ok x q → CellAt wz (fun q => Y < q) (.row 10 (x.map vdC)) (.slice aV rv.length cV) := fun x q e => by
        rw [htl2] at e; rw [← q3 x q e]; exact CellAt.weaken (fun q _ h => by have h : wl.heap.size ≤ q := h; show Y < q; omega) _ _ q4.cell
       exact Jn.call _ HJ31.out hs hv
      have HEXX := hid HEX; have HDV := hid hdv; have HCL2 := hid (show (true : Bool) = true ∨ isT [41] r0 = false from .inl rfl); clear HEX htl htl2 hls HY31 HO31 HJ31 HD31 hdv; obtain ⟨w20, hw20⟩ := eX (wl); have HDV2 := hid (show DV tl wr wl b Y all m sn true (.ok () r0) w20 [] (.slice none 0 0) by rw [← hw20]; exact HDV.out); clear HDV; have HWL := hid hw20; clear hw20; rw [HWL.out]; obtain ⟨rv, hrv⟩ : ∃ x : List (List Cell), [] = x := ⟨_, rfl⟩; obtain ⟨aV, haV⟩ : ∃ x : Option Addr, none = x := ⟨_, rfl⟩; obtain ⟨cV, hcV⟩ : ∃ x : Nat, 0 = x := ⟨_, rfl⟩; have HDV3 := hid (show DV tl wr wl b Y all m sn true (.ok () r0) w20 rv (.slice aV rv.length cV) by rw [← hrv, ← haV, ← hcV]; exact HDV2.out); clear HDV2 hrv haV hcV; have HDV2 := HDV3; clear HDV3; have gV2n : cV ≤ 9223372036854775807 := by
       obtain ⟨_, _, eV, _, gV2, _⟩ := HDV2.out.own.form
       injection eV with _ _ eV
       rw [eV]; unfold maxLen at gV2; omega
      have HFV := hid (show ∀ k, (Value.slice aV rv.length cV).ownBlock = some k → wl.heap.size ≤ k ∧ k < w20.heap.size from fun k hk => by obtain ⟨_, _, _, _, _, h3⟩ := HDV2.out.own.form; exact h3 k hk); have hYw : Y < w20.heap.size := (gE HDV2.out.box).1; have hlw : wl.heap.size ≤ w20.heap.size := HDV2.out.onl.size; have HFW := hid (show rv.length + 1 ≤ 1000000 by have h1 := (HDV2.out.ls.ok _ _ rfl).1; have h2 := HDV2.out.rd.few.2; omega)
      go_upto_region 26 with (fail)
      refine wp_region_stepsM 7 (by kernel_rfl) rfl (by kernel_rfl) [some 88, some 89, some 90, some 91, some 92, some 93, some 94] rfl rfl 3 5 (fun q => q = b) (fun q => (Value.slice aV rv.length cV).ownBlock = some q) [4, 5, 6, 7] (by kernel_rfl) [2] (by kernel_rfl) (by decide) (by decide) (.inr ⟨by decide, by decide⟩) [(fun v _ => v = (.pointer (some ⟨Y, 2, none⟩))), (fun v _ => v = (.slice aV rv.length cV)), (fun v _ => v = (.pointer (some ⟨b, 0, none⟩))), (fun v w1 => ∃ (s0 s1 : List UInt8) (a1 : Option Addr) (l1 e1 : Nat) (b1 b2 : Bool) (k : Nat) (n : Int) (s2 : List UInt8) (a2 : Option Addr) (l2 e2 : Nat) (a3 : Option Addr) (l3 e3 : Nat) (row : List Cell), v = .agg #[.string ⟨s0.toArray⟩, .string ⟨s1.toArray⟩, .slice a1 l1 e1, .bool b1, .bool b2, .int .u8 (k : Int), .int .i64 n, .string ⟨s2.toArray⟩, .slice a2 l2 e2, .slice a3 l3 e3] ∧ CellsAt w1 (fun q => w20.heap.size ≤ q) row [.string ⟨s0.toArray⟩, .string ⟨s1.toArray⟩, .slice a1 l1 e1, .bool b1, .bool b2, .int .u8 (k : Int), .int .i64 n, .string ⟨s2.toArray⟩, .slice a2 l2 e2, .slice a3 l3 e3] ∧ (∀ x q, varP r0 = .ok x q → row = vdC x) ∧ Rf w1 b all (varP r0).unit), (fun v w1 => ∃ (g : Nat) (cs : List Value) (row : List Cell), v = .slice (some ⟨g, 0, none⟩) 1 1 ∧ w20.heap.size ≤ g ∧ g < w1.heap.size ∧ cs.length = 10 ∧ w1.rangeAt g 0 cs ∧ CellsAt w1 (fun q => w20.heap.size ≤ q) row cs ∧ (∀ x q, varP r0 = .ok x q → row = vdC x) ∧ Rf w1 b all (varP r0).unit), (fun v w1 => ∃ row : List Cell, OwnRow w1 wl.heap.size 60 10 v (rv ++ [row]) ∧ (∀ q, v.ownBlock = some q → (Value.slice aV rv.length cV).ownBlock = some q ∨ w20.heap.size ≤ q) ∧ (∀ x q, varP r0 = .ok x q → row = vdC x) ∧ Rf w1 b all (varP r0).unit), (fun v _ => v = (.pointer (some ⟨Y, 2, none⟩)))] rfl ⟨?_, ?_, ?_, ?_, ?_, ?_, ?_, trivial⟩ _ rfl ⟨?_, ?_, ?_, ?_, ?_, ?_, ?_, trivial⟩ ?_
      iterate 3 exact Stable.is _ _
      ·intro v w1 w2 h ho; have ho : Only (fun q => (Value.slice aV rv.length cV).ownBlock = some q) w1 w2 := ho; exact (by obtain ⟨s0, s1, a1, l1, e1, b1, b2, k, n, s2, a2, l2, e2, a3, l3, e3, row, e1', e2', e3', e4'⟩ := h; exact ⟨s0, s1, a1, l1, e1, b1, b2, k, n, s2, a2, l2, e2, a3, l3, e3, row, e1', CellsAt.only ho (fun q hq hk => by have := (HFV.out q hk).2; have hq : w20.heap.size ≤ q := hq; omega) _ _ e2', e3', e4'.only ho (fun k hk h => by have := (HFV.out k h).1; omega)⟩)
      ·intro v w1 w2 h ho; have ho : Only (fun q => (Value.slice aV rv.length cV).ownBlock = some q) w1 w2 := ho; exact (by obtain ⟨g, cs, row, e1', e2', e3', e4', e5', e6', e7', e8'⟩ := h; have hng : ¬ (Value.slice aV rv.length cV).ownBlock = some g := fun hk => (by have := (HFV.out g hk).2; omega); exact ⟨g, cs, row, e1', e2', Nat.lt_of_lt_of_le e3' ho.size, e4', range_keep e5' e3' ho hng, CellsAt.only ho (fun q hq hk => by have := (HFV.out q hk).2; have hq : w20.heap.size ≤ q := hq; omega) _ _ e6', e7', e8'.only ho (fun k hk h => by have := (HFV.out k h).1; omega)⟩)
      ·intro v w1 w2 h ho; have ho : Only (fun _ => False) w1 w2 := ho; exact (by obtain ⟨row, e1', e2', e3', e4'⟩ := h; exact ⟨row, e1'.only ho (fun _ _ _ h => h), e2', e3', e4'.still ho⟩)
      ·exact Stable.is _ _
      ·intro x wx ox hN TT HTT; have ox : Only (fun q => (fun q => q = b) q ∨ (fun q => (Value.slice aV rv.length cV).ownBlock = some q) q) _ wx := ox; unfold StepTo; simp only [putAll, Act.put, zA, zB, zC]; clear hN
       go_wp2_with fail
       exact ⟨rfl, _, rfl, HTT.out _ _ rfl oR⟩
      ·intro x wx ox hN TT HTT; have ox : Only (fun q => (fun q => q = b) q ∨ (fun q => (Value.slice aV rv.length cV).ownBlock = some q) q) _ wx := ox; unfold StepTo; simp only [putAll, Act.put, zA, zB, zC, eI (hN.1 rfl)]; clear hN; have hbx := (ox.block _ hYw (fun h => by rcases h with h | h; omega; (have := (HFV.out _ h).1; omega))).trans HDV2.out.box; obtain ⟨c0, c1, c2, c3, fz⟩ := boxN4 hbx; clear hbx
       go_wp2_with fail
       exact ⟨rfl, _, rfl, HTT.out _ _ rfl oR⟩
      ·intro x wx ox hN TT HTT; have ox : Only (fun _ => False) _ wx := ox; unfold StepTo; simp only [putAll, Act.put, zA, zB, zC]; clear hN
       go_wp2_with fail
       exact ⟨rfl, _, rfl, HTT.out _ _ rfl oR⟩
      ·intro x wx ox hN TT HTT; have ox : Only (fun _ => False) _ wx := ox; unfold StepTo; simp only [putAll, Act.put, zA, zB, zC, eI (hN.1 rfl)]; clear hN; have ht := fvar_any b all HDP.out (.ok () r0) wx (HDV2.out.rd.still (((Only.refl _ w20).drew).trans ox)); have hsl : w20.heap.size ≤ wx.heap.size := ox.size; have HT := hid ht; have HSL := hid hsl; clear ht hsl
       go_wp2_with fail
       refine HT.out.mono ?_
       rintro e w6 ⟨v6, rfl, ⟨s0, s1, a1, l1, e1, b1, b2, k, n, s2, a2, l2, e2, a3, l3, e3, rfl⟩, h6, hv6, o6⟩; have hvc : ∀ x q, varP r0 = .ok x q → CellsAt w6 (fun q => w20.heap.size ≤ q) (vdC x) [.string ⟨s0.toArray⟩, .string ⟨s1.toArray⟩, .slice a1 l1 e1, .bool b1, .bool b2, .int .u8 (k : Int), .int .i64 n, .string ⟨s2.toArray⟩, .slice a2 l2 e2, .slice a3 l3 e3] := fun x q e => CellsAt.weaken (fun q _ h => Nat.le_trans HSL.out h) _ _ (aggF_cells (hv6 x q e))
       obtain ⟨row, hrow, hrx⟩ := elem_row (P := varP r0) (enc := vdC) (ys := [.string ⟨s0.toArray⟩, .string ⟨s1.toArray⟩, .slice a1 l1 e1, .bool b1, .bool b2, .int .u8 (k : Int), .int .i64 n, .string ⟨s2.toArray⟩, .slice a2 l2 e2, .slice a3 l3 e3]) hvc (by intro u hu; simp at hu; rcases hu with rfl | rfl | rfl | rfl | rfl | rfl | rfl | rfl | rfl | rfl <;> rfl); have H6 := hid (show Rf w6 b all (varP r0).unit from h6); have O6 := hid o6; have HV6 := hid hrow; have HX6 := hid hrx; clear h6 o6 hv6 hvc hrow hrx
       go_wp2_with fail
       exact ⟨rfl, _, rfl, HTT.out _ _ (⟨s0, s1, a1, l1, e1, b1, b2, k, n, s2, a2, l2, e2, a3, l3, e3, row, rfl, HV6.out, HX6.out, H6.out⟩) (O6.out)⟩
      ·intro x wx ox hN TT HTT; have ox : Only (fun q => (fun q => q = b) q ∨ (fun q => (Value.slice aV rv.length cV).ownBlock = some q) q) _ wx := ox; have r91 : (fun (v : Value) (w1 : World) => ∃ (s0 s1 : List UInt8) (a1 : Option Addr) (l1 e1 : Nat) (b1 b2 : Bool) (k : Nat) (n : Int) (s2 : List UInt8) (a2 : Option Addr) (l2 e2 : Nat) (a3 : Option Addr) (l3 e3 : Nat) (row : List Cell), v = .agg #[.string ⟨s0.toArray⟩, .string ⟨s1.toArray⟩, .slice a1 l1 e1, .bool b1, .bool b2, .int .u8 (k : Int), .int .i64 n, .string ⟨s2.toArray⟩, .slice a2 l2 e2, .slice a3 l3 e3] ∧ CellsAt w1 (fun q => w20.heap.size ≤ q) row [.string ⟨s0.toArray⟩, .string ⟨s1.toArray⟩, .slice a1 l1 e1, .bool b1, .bool b2, .int .u8 (k : Int), .int .i64 n, .string ⟨s2.toArray⟩, .slice a2 l2 e2, .slice a3 l3 e3] ∧ (∀ x q, varP r0 = .ok x q → row = vdC x) ∧ Rf w1 b all (varP r0).unit) (x 3) wx := hN.1 rfl; unfold StepTo; simp only [putAll, Act.put, zA, zB, zC]; clear hN; obtain ⟨s0, s1, a1, l1, e1, b1, b2, k, n, s2, a2, l2, e2, a3, l3, e3, row, e1', e2', e3', e4'⟩ := r91; simp only [e1']; have hn := heap_new wx (.cells #[.string ⟨s0.toArray⟩, .string ⟨s1.toArray⟩, .slice a1 l1 e1, .bool b1, .bool b2, .int .u8 (k : Int), .int .i64 n, .string ⟨s2.toArray⟩, .slice a2 l2 e2, .slice a3 l3 e3] 60); have on := (Only.refl (fun _ => False) wx).alloc (.cells #[.string ⟨s0.toArray⟩, .string ⟨s1.toArray⟩, .slice a1 l1 e1, .bool b1, .bool b2, .int .u8 (k : Int), .int .i64 n, .string ⟨s2.toArray⟩, .slice a2 l2 e2, .slice a3 l3 e3] 60); have hgl : w20.heap.size ≤ wx.heap.size := ox.size; have H3 := hid e4'; have HNB := hid hn; have ON := hid on; have HGL2 := hid hgl; have HV2 := hid e2'; have HX2 := hid e3'; clear e1' e2' e3' e4' hn on hgl
       go_wp2_with fail
       exact ⟨rfl, _, rfl, HTT.out _ _ (⟨wx.heap.size, _, row, rfl, HGL2.out, by simp, rfl, range_of_block HNB.out, CellsAt.only ON.out (fun _ _ h => h) _ _ HV2.out, HX2.out, H3.out.still ON.out⟩) (ON.out)⟩
      ·intro x wx ox hN TT HTT; have ox : Only (fun q => q = b) _ wx := ox; have r92 : (fun (v : Value) (w1 : World) => ∃ (g : Nat) (cs : List Value) (row : List Cell), v = .slice (some ⟨g, 0, none⟩) 1 1 ∧ w20.heap.size ≤ g ∧ g < w1.heap.size ∧ cs.length = 10 ∧ w1.rangeAt g 0 cs ∧ CellsAt w1 (fun q => w20.heap.size ≤ q) row cs ∧ (∀ x q, varP r0 = .ok x q → row = vdC x) ∧ Rf w1 b all (varP r0).unit) (x 4) wx := hN.2.1 rfl; have r91 : (fun (v : Value) (w1 : World) => ∃ (s0 s1 : List UInt8) (a1 : Option Addr) (l1 e1 : Nat) (b1 b2 : Bool) (k : Nat) (n : Int) (s2 : List UInt8) (a2 : Option Addr) (l2 e2 : Nat) (a3 : Option Addr) (l3 e3 : Nat) (row : List Cell), v = .agg #[.string ⟨s0.toArray⟩, .string ⟨s1.toArray⟩, .slice a1 l1 e1, .bool b1, .bool b2, .int .u8 (k : Int), .int .i64 n, .string ⟨s2.toArray⟩, .slice a2 l2 e2, .slice a3 l3 e3] ∧ CellsAt w1 (fun q => w20.heap.size ≤ q) row [.string ⟨s0.toArray⟩, .string ⟨s1.toArray⟩, .slice a1 l1 e1, .bool b1, .bool b2, .int .u8 (k : Int), .int .i64 n, .string ⟨s2.toArray⟩, .slice a2 l2 e2, .slice a3 l3 e3] ∧ (∀ x q, varP r0 = .ok x q → row = vdC x) ∧ Rf w1 b all (varP r0).unit) (x 3) wx := hN.2.2.1 rfl; unfold StepTo; simp only [putAll, Act.put, zA, zB, zC, eI (hN.1 rfl)]; clear hN; obtain ⟨g, cs, row, e1', e2', e3', e4', e5', e6', e7', e8'⟩ := r92; simp only [e1']; obtain ⟨xs, p1, p2⟩ := HDV2.out.own.only (((Only.refl _ w20).drew).trans ox) (fun k h1 h2 e => by have e : k = b := e; omega); have hys : ∀ j u, cs[j]? = some u → wx.cell? ((⟨g, 0, none⟩ : Addr).add j) = some u := fun j u hu => by rw [addr_add]; exact e5' j u hu
       have hone : ∀ u ∈ cs, u.oneCell' = true := CellsAt.one e6'; have hsl : w20.heap.size ≤ wx.heap.size := ox.size; have HP1 := hid p1; have HP2 := hid p2; have HYS := hid hys; have HSL := hid hsl; have H6 := hid e8'; have HV6 := hid e6'; have HONE := hid hone; have HX6 := hid e7'; clear p1 p2 hys hsl e8' e7' e6' e5' e1' hone
       go_wp2_with ((refine wpList_append_own2 (o := ⟨some 93, _, _, _, _, _⟩) rfl (.tmp 89) (.tmp 92) 54 60 (by rfl) Tryz.underlying54 infoVd rfl (by decide) wl.heap.size (.slice aV rv.length cV) rv.length 1 1 xs cs ⟨g, 0, none⟩ (by rfl) (by rfl) HP1.out (by rw [e4']) HYS.out HONE.out (by have := HFW.out; unfold maxLen; omega) (by have := HFW.out; omega) (by have := HSL.out; omega) ?_; intro v' w9 q1 q2 q3))
       have hv8 : CellsAt wx (fun q => wl.heap.size ≤ q ∧ (Value.slice aV rv.length cV).ownBlock ≠ some q ∧ q < wx.heap.size) row cs := CellsAt.weaken (fun q hq h => by have h : w20.heap.size ≤ q := h; exact ⟨by omega, fun hv => (by have := (HFV.out q hv).2; omega), hq⟩) _ _ HV6.out; have hrow := OwnRow.append (r := row) HP1.out HP2.out e4' hv8 q1 q2 q3; exact ⟨rfl, _, rfl, HTT.out _ _ (⟨row, hrow, fun q hq => (q3 q hq).imp id (fun h => Nat.le_trans HSL.out h), HX6.out, H6.out.only q2 (fun k hk h => by have := (HFV.out k h).1; omega)⟩) (q2)⟩
      ·intro x wx ox hN TT HTT; have ox : Only (fun q => (fun q => q = b) q ∨ (fun q => (Value.slice aV rv.length cV).ownBlock = some q) q) _ wx := ox; have r91 : (fun (v : Value) (w1 : World) => ∃ (s0 s1 : List UInt8) (a1 : Option Addr) (l1 e1 : Nat) (b1 b2 : Bool) (k : Nat) (n : Int) (s2 : List UInt8) (a2 : Option Addr) (l2 e2 : Nat) (a3 : Option Addr) (l3 e3 : Nat) (row : List Cell), v = .agg #[.string ⟨s0.toArray⟩, .string ⟨s1.toArray⟩, .slice a1 l1 e1, .bool b1, .bool b2, .int .u8 (k : Int), .int .i64 n, .string ⟨s2.toArray⟩, .slice a2 l2 e2, .slice a3 l3 e3] ∧ CellsAt w1 (fun q => w20.heap.size ≤ q) row [.string ⟨s0.toArray⟩, .string ⟨s1.toArray⟩, .slice a1 l1 e1, .bool b1, .bool b2, .int .u8 (k : Int), .int .i64 n, .string ⟨s2.toArray⟩, .slice a2 l2 e2, .slice a3 l3 e3] ∧ (∀ x q, varP r0 = .ok x q → row = vdC x) ∧ Rf w1 b all (varP r0).unit) (x 3) wx := hN.2.2.2.1 rfl; have r92 : (fun (v : Value) (w1 : World) => ∃ (g : Nat) (cs : List Value) (row : List Cell), v = .slice (some ⟨g, 0, none⟩) 1 1 ∧ w20.heap.size ≤ g ∧ g < w1.heap.size ∧ cs.length = 10 ∧ w1.rangeAt g 0 cs ∧ CellsAt w1 (fun q => w20.heap.size ≤ q) row cs ∧ (∀ x q, varP r0 = .ok x q → row = vdC x) ∧ Rf w1 b all (varP r0).unit) (x 4) wx := hN.2.2.2.2.1 rfl; have r93 : (fun (v : Value) (w1 : World) => ∃ row : List Cell, OwnRow w1 wl.heap.size 60 10 v (rv ++ [row]) ∧ (∀ q, v.ownBlock = some q → (Value.slice aV rv.length cV).ownBlock = some q ∨ w20.heap.size ≤ q) ∧ (∀ x q, varP r0 = .ok x q → row = vdC x) ∧ Rf w1 b all (varP r0).unit) (x 5) wx := hN.2.2.2.2.2.1 rfl; unfold StepTo; simp only [putAll, Act.put, zA, zB, zC, eI (hN.1 rfl), eI (hN.2.1 rfl), eI (hN.2.2.1 rfl)]; clear hN
       go_wp2_with fail
       exact ⟨rfl, _, rfl, HTT.out _ _ rfl oR⟩
      intro xz wxz oxz hN; have oxz : Only (fun q => (fun q => q = b) q ∨ (fun q => (Value.slice aV rv.length cV).ownBlock = some q) q) _ wxz := oxz; have r91 : (fun (v : Value) (w1 : World) => ∃ (s0 s1 : List UInt8) (a1 : Option Addr) (l1 e1 : Nat) (b1 b2 : Bool) (k : Nat) (n : Int) (s2 : List UInt8) (a2 : Option Addr) (l2 e2 : Nat) (a3 : Option Addr) (l3 e3 : Nat) (row : List Cell), v = .agg #[.string ⟨s0.toArray⟩, .string ⟨s1.toArray⟩, .slice a1 l1 e1, .bool b1, .bool b2, .int .u8 (k : Int), .int .i64 n, .string ⟨s2.toArray⟩, .slice a2 l2 e2, .slice a3 l3 e3] ∧ CellsAt w1 (fun q => w20.heap.size ≤ q) row [.string ⟨s0.toArray⟩, .string ⟨s1.toArray⟩, .slice a1 l1 e1, .bool b1, .bool b2, .int .u8 (k : Int), .int .i64 n, .string ⟨s2.toArray⟩, .slice a2 l2 e2, .slice a3 l3 e3] ∧ (∀ x q, varP r0 = .ok x q → row = vdC x) ∧ Rf w1 b all (varP r0).unit) (xz 3) wxz := hN.2.2.2.1; have r92 : (fun (v : Value) (w1 : World) => ∃ (g : Nat) (cs : List Value) (row : List Cell), v = .slice (some ⟨g, 0, none⟩) 1 1 ∧ w20.heap.size ≤ g ∧ g < w1.heap.size ∧ cs.length = 10 ∧ w1.rangeAt g 0 cs ∧ CellsAt w1 (fun q => w20.heap.size ≤ q) row cs ∧ (∀ x q, varP r0 = .ok x q → row = vdC x) ∧ Rf w1 b all (varP r0).unit) (xz 4) wxz := hN.2.2.2.2.1; have r93 : (fun (v : Value) (w1 : World) => ∃ row : List Cell, OwnRow w1 wl.heap.size 60 10 v (rv ++ [row]) ∧ (∀ q, v.ownBlock = some q → (Value.slice aV rv.length cV).ownBlock = some q ∨ w20.heap.size ≤ q) ∧ (∀ x q, varP r0 = .ok x q → row = vdC x) ∧ Rf w1 b all (varP r0).unit) (xz 5) wxz := hN.2.2.2.2.2.1; simp only [putAll, Act.put, zA, zB, zC, eI hN.1, eI hN.2.1, eI hN.2.2.1, eI hN.2.2.2.2.2.2.1]; clear hN; obtain ⟨row, q1, q2, q4, q5⟩ := r93; obtain ⟨aN, cN, eN, gL1, gL2, gL3⟩ := q1.form; rw [List.length_append, List.length_singleton] at eN gL1; rw [eN] at q1 q2 gL3 ⊢; have gN2 : cN ≤ 9223372036854775807 := by unfold maxLen at gL2; omega
      have hYb := (oxz.block _ hYw (fun h => by rcases h with h | h; omega; (have := (HFV.out _ h).1; omega))).trans HDV2.out.box; obtain ⟨c0, c1, c2, c3, fz⟩ := boxN4 hYb; have hY6 := heap_set (o := 2) hYb (.slice aN (rv.length + 1) cN); have hY6 : (wxz.setCell ⟨Y, 2, none⟩ (.slice aN (rv.length + 1) cN)).heap[Y]? = some (.cells #[.bool m, .string ⟨sn.toArray⟩, .slice aN (rv.length + 1) cN, .slice none 0 0] 56 (0, 0)) := by simpa using hY6
      have o6 := (Only.refl (fun k => k = Y) wxz).setCell (p := ⟨Y, 2, none⟩) (.inl rfl) (.slice aN (rv.length + 1) cN); have hob : Only (fun q => q = b ∨ q = Y ∨ (Value.slice aV rv.length cV).ownBlock = some q) w20 (wxz.setCell ⟨Y, 2, none⟩ (.slice aN (rv.length + 1) cN)) := ((((Only.refl _ w20).drew).trans' oxz (fun q _ h => h.imp id .inr)).trans' o6 (fun q _ h => .inr (.inl h))); have hyr := HWY.out; have hlr : wr.heap.size ≤ wl.heap.size := by omega
      have hls := HDV2.out.ls.next (K' := fun acc => rv ++ [row] = acc.map vdC) varP_takes HDV2.out.rd.few.2 (by first | exact HCL2.out | exact .inl rfl) (fun acc x q h1 h2 => by rw [h1, q4 x q h2, List.map_append]; rfl); have hnew : DV tl wr wl b Y all m sn false (varP r0).unit (wxz.setCell ⟨Y, 2, none⟩ (.slice aN (rv.length + 1) cN)) (rv ++ [row]) (.slice aN (rv.length + 1) cN) := by
       refine ⟨q5.only o6 (fun k hk e => by have e : k = Y := e; omega), hY6, q1.only o6 (fun k h1 h2 e => by have e : k = Y := e; omega), HDV2.out.only.trans' hob (fun q hq h => ?_), HDV2.out.onl.trans' hob (fun q hq h => ?_), by rw [List.length_append, List.length_singleton]; exact hls⟩
       ·rcases h with h | h | h
        ·exact h
        ·omega
        ·have := (HFV.out q h).1; omega
       ·rcases h with h | h | h
        ·exact .inl h
        ·exact .inr h
        ·have := (HFV.out q h).1; omega
      have hmu : muF (wxz.setCell ⟨Y, 2, none⟩ (.slice aN (rv.length + 1) cN)) b all < muF w20 b all := by
       rw [muF_ok HDV2.out.rd]; have hd := hnew.rd
       cases hq : varP r0 with
       | bad p q => rw [hq] at hd; rw [muF_bad hd]; omega
       | ok x r2 => rw [hq] at hd; rw [muF_ok (u := ()) hd]; have := varP_takes _ _ _ hq; omega
      obtain ⟨wn, hwn⟩ := eX (wxz.setCell ⟨Y, 2, none⟩ (.slice aN (rv.length + 1) cN)); rw [hwn] at hnew hmu; have HNEW := hid hnew; have HMU := hid hmu; have HWN := hid hwn; clear hnew hmu hls hyr hlr hob o6 hY6 hYb q1 q2 q4 q5 gL1 gL2 gL3 eN oxz hwn HDV2 HFV HFW HCL2
      go_upto_region 27 with (fail)
      rw [HWN.out]; clear HWN c0 c1 c2 c3 fz
      go_wp2_with fail
      obtain ⟨wo, hwo⟩ : ∃ x, x = wr := ⟨_, rfl⟩; subst hwo
      go_loopw [] (fun wz => Hid (∃ σ rv vV, DV tl wo wl b Y all m sn false σ wz rv vV)) (fun wz => muF wz b all)
      case atStart => exact hid ⟨_, _, _, HNEW.out⟩
      case round =>
       obtain ⟨σ, rv, vV, hdv⟩ := hrel.out; obtain ⟨w90, hw90⟩ := eX (wr); rw [hw90] at hdv ⊢; clear hw90 hrel HNEW HMU; obtain ⟨wr, hwo⟩ : ∃ x, x = wo := ⟨_, rfl⟩; subst hwo; obtain ⟨aV, cV, eV, gV1, gV2, gV3⟩ := hdv.own.form; subst eV; have gV2n : cV ≤ 9223372036854775807 := by unfold maxLen at gV2; omega
       have HDV := hid hdv; obtain ⟨e0, ce, cz, hσ⟩ := hdv.rd.err; clear hdv gV2 gV3
       rcases hσ with ⟨rz, rfl, rfl⟩ | ⟨ab, rfl, he0⟩
       rotate_left
       ·-- a fault: the loop ends
        have t1 : ((e0 : Int) == 0) = false := by simp; omega
        have htl := HDV.out.ls.bad _ _ rfl; have HJ90 := hid (HEXX.out w90 (.bad ab e0) rv aV cV HDV.out.rd (by rw [htl]; rfl) (fun x q e => (by rw [htl] at e; cases e)) HDV.out.own); have HY90 := hid HDV.out.box; have HD90 := hid HDV.out.rd; have HO90 := hid HDV.out.only; obtain ⟨σ90, hs90⟩ : ∃ x : PR Unit, PR.bad ab e0 = x := ⟨_, rfl⟩; rw [hs90] at HJ90 HD90; have HC90_90 := hid (Only.refl (fun k => k ≤ Y) w90); clear htl he0 HDV hs90
        go_upto_region 29 with (fail)
        clear ce cz; have HJu := HJ90.out; unfold opS at HJu; clear HJ90; have HJ90 := hid HJu; clear HJu; have J := hid (fset_any 24 b all σ90 w90 HAD.out HD90.out)
        go_wp2_with fail
        refine J.out.mono ?_
        rintro e w91 ⟨v, rfl, ⟨ar91, lr91, cr91, rfl⟩, hd, hv, o4⟩; have hsy : Y < w90.heap.size := (gE HY90.out).1; have hv : ∀ x q, (σ90.bind fun _ => (setP 24)) = .ok x q → CellAt w91 (fun q => Y < q) (.row 7 (x.map selC)) (.slice ar91 lr91 cr91) := fun x q e => CellAt.weaken (fun q _ h => by have h : w90.heap.size ≤ q := h; show Y < q; omega) _ _ (hv x q e)
        obtain ⟨σ91, hσ⟩ := eX ((σ90.bind fun _ => (setP 24)).unit); rw [hσ] at hd; have hj := Jn.call (fun x => CellAt w91 (fun q => Y < q) (.row 7 (x.map selC)) (.slice ar91 lr91 cr91)) HJ90.out hσ.symm hv; have HJ91 := hid hj; have HD91 := hid hd; clear hj hd hv hσ HJ90 J hsy; have hy91 := kB o4 HY90.out (by omega); have HY91 := hid hy91; have HC90_91 := hid (HC90_90.out.trans' o4 (fun q hq e => by have e : q = b := e; show q ≤ Y; omega)); have HO91 := hid (HO90.out.trans' o4 (fun q hq e => by exact e)); clear hy91; have HC91_91 := hid (Only.refl (fun k => k ≤ Y) w91); clear o4; clear HO90 HD90 HY90 HC90_90; obtain ⟨y0, y1, y2, y3, yz⟩ := boxN4 HY91.out
        go_upto_region 30 with (fail)
        clear y0 y1 y2 y3 yz; have hy92 := heap_set (o := 3) HY91.out (.slice ar91 lr91 cr91); have hy92 : (w91.setCell ⟨Y, 3, none⟩ (.slice ar91 lr91 cr91)).heap[Y]? = some (.cells #[.bool m, .string ⟨sn.toArray⟩, .slice aV rv.length cV, .slice ar91 lr91 cr91] 56 (0, 0)) := by simpa using hy92
        have os92 : Only (fun k => k = Y) w91 (w91.setCell ⟨Y, 3, none⟩ (.slice ar91 lr91 cr91)) := (Only.refl (fun k => k = Y) _).setCell (p := ⟨Y, 3, none⟩) (.inl rfl) _; obtain ⟨w92, hw92⟩ := eX (w91.setCell ⟨Y, 3, none⟩ (.slice ar91 lr91 cr91)); rw [hw92] at hy92 os92; rw [hw92]; clear hw92; have HY92 := hid hy92; have HD92 := hid (HD91.out.only os92 (fun k hk e => by omega)); have HJ92 := HJ91; have HC90_92 := hid (HC90_91.out.trans' os92 (fun q hq e => by have e : q = Y := e; show q ≤ Y; omega)); have HC91_92 := hid (HC91_91.out.trans' os92 (fun q hq e => by have e : q = Y := e; show q ≤ Y; omega)); have HO92 := hid (HO91.out.trans' os92 (fun q hq e => by have e : q = Y := e; have := HWY.out; omega)); clear hy92 os92 HJ91; clear HO91 HD91 HY91 HC90_91 HC91_91; obtain ⟨hdn, hxs⟩ := HJ92.out.done; have o90 := HC90_92.out; have o91 := HC91_92.out; have hvc : ∀ x q, total = .ok x q → CellsAt w92 (fun q => Y < q ∧ q < w92.heap.size) (opC x) [.bool m, .string ⟨sn.toArray⟩, .slice aV rv.length cV, .slice ar91 lr91 cr91] := fun x q e => by
         obtain ⟨⟨⟨u, vs⟩, sb⟩, rfl, ⟨⟨-, k0⟩, k9⟩⟩ := hxs x q e; exact CellsAt.lit rfl (CellsAt.lit rfl (CellsAt.cons (CellAt.weaken (G' := fun q => Y < q ∧ q < w92.heap.size) (fun q hq h => ⟨h, hq⟩) _ _ (CellAt.only o90 (fun k hk e => by have hk : Y < k := hk; have e : k ≤ Y := e; omega) _ _ k0)) (CellsAt.cons (CellAt.weaken (G' := fun q => Y < q ∧ q < w92.heap.size) (fun q hq h => ⟨h, hq⟩) _ _ (CellAt.only o91 (fun k hk e => by have hk : Y < k := hk; have e : k ≤ Y := e; omega) _ _ k9)) (CellsAt.nil _ _))))
        have hdz : Rf w92 b all total.unit := by rw [← hdn]; exact HD92.out
        obtain ⟨row, hrow, hrx⟩ := elem_row (P := total) (enc := opC) (ys := [.bool m, .string ⟨sn.toArray⟩, .slice aV rv.length cV, .slice ar91 lr91 cr91]) hvc (by intro u hu; simp at hu; rcases hu with rfl | rfl | rfl | rfl <;> rfl); have HDZ := hid hdz; have HROW := hid hrow; have HRX := hid hrx; clear hdn hxs hvc hdz hrow hrx HD92 HJ92 o90 o91; obtain ⟨G, hG⟩ := eX (w92.heap.size); obtain ⟨wA, hwa⟩ := eX (w92.alloc (.cells #[.bool m, .string ⟨sn.toArray⟩, .slice aV rv.length cV, .slice ar91 lr91 cr91] 56)); have og : Only (fun _ => False) w92 wA := by rw [← hwa]; exact (Only.refl _ _).alloc _
        have hgg : wA.heap[G]? = some (.cells #[.bool m, .string ⟨sn.toArray⟩, .slice aV rv.length cV, .slice ar91 lr91 cr91] 56 (0, 0)) := by rw [← hwa, ← hG]; exact heap_new _ _
        have hgs : G + 1 = wA.heap.size := by rw [← hwa, World.size_alloc, hG]
        have hgw : wr.heap.size ≤ G := by have := HO92.out.size; omega
        have HOA := hid (HO92.out.trans' og (fun q _ e => e.elim)); have HW := hid (HDF.out.own.only HOA.out (fun k h1 h2 e => by have e : k = b := e; omega)); have HRA := hid (show CellsAt wA (fun q => (D + 1 ≤ q ∧ (Value.slice aK os.length cK).ownBlock ≠ some q ∧ q < wA.heap.size) ∧ (Value.slice aL fs.length cL).ownBlock ≠ some q) row [.bool m, .string ⟨sn.toArray⟩, .slice aV rv.length cV, .slice ar91 lr91 cr91] from CellsAt.weaken (fun q hq h => by have h1 : Y < q := h.1; have := HWY.out; have := HDL.out; exact ⟨⟨by omega, fun e => by have := (HFK.out q e).2; omega, hq⟩, fun e => by have := (HFL.out q e).2; omega⟩) _ _ (CellsAt.only og (fun _ _ h => h) _ _ HROW.out)); have HDA := hid (HDZ.out.still og); have HBn := hid ((HO92.out.block D HDL.out (by omega)).trans HDF.out.box); have HBA := hid ((HOA.out.block D HDL.out (by omega)).trans HDF.out.box); have HRS := hid ((HOA.out.block R (gE HDF.out.res).1 (by omega)).trans HDF.out.res); obtain ⟨xs, p1', p2'⟩ := HW.out.swap.l; have hys : ∀ j u, ([.bool m, .string ⟨sn.toArray⟩, .slice aV rv.length cV, .slice ar91 lr91 cr91] : List Value)[j]? = some u → wA.cell? ((⟨G, 0, none⟩ : Addr).add j) = some u := fun j u hu => by rw [addr_add]; exact range_of_block (cs := [.bool m, .string ⟨sn.toArray⟩, .slice aV rv.length cV, .slice ar91 lr91 cr91]) hgg j u hu
        have hone : ∀ u ∈ ([.bool m, .string ⟨sn.toArray⟩, .slice aV rv.length cV, .slice ar91 lr91 cr91] : List Value), u.oneCell' = true := by intro u hu; simp at hu; rcases hu with rfl | rfl | rfl | rfl <;> rfl
        have HYS := hid hys; have HONE := hid hone; have HP1 := hid p1'; have HP2 := hid p2'; have HG := hid hG; have HWA := hid hwa; have HGS := hid hgs; have HGW := hid hgw; clear hys hone p1' p2' hG hwa hgs hgg og hgw; obtain ⟨y0, y1, y2, y3, yz⟩ := boxN4 HY92.out; obtain ⟨c0, c1, cz⟩ := boxN2 HBn.out
        go_wp2_with ((rw [HG.out, HWA.out]; refine wpList_append_own2 (o := ⟨some 119, _, _, _, _, _⟩) rfl (.tmp 116) (.tmp 118) 23 56 (by rfl) Tryz.underlying23 infoOp rfl (by decide) (D + 1) (.slice aK os.length cK) os.length 1 1 xs [.bool m, .string ⟨sn.toArray⟩, .slice aV rv.length cV, .slice ar91 lr91 cr91] ⟨G, 0, none⟩ (by rfl) (by rfl) HP1.out (by rfl) HYS.out HONE.out (by have := HFEW.out; unfold maxLen; omega) (by have := HFEW.out; omega) (by have := HGS.out; have := HGW.out; have := HDL.out; omega) ?_; intro v' wZ q1 q2 q3; obtain ⟨aN, cN, eN, gL1, gL2, -⟩ := own_form q1; subst eN; clear c0 c1 cz y0 y1 y2 y3 yz; obtain ⟨c0, c1, cz⟩ := boxN2 ((q2.block D (gE HBA.out).1 (fun e => by have := (HFK.out D e).1; omega)).trans HBA.out)))
        have hF := HFK.out; have hrow2 := (OwnTwo.append HW.out.swap HP1.out HP2.out rfl HRA.out q1 q2 q3).swap; have hdd := HDA.out.only q2 (fun k hk h => by have := (hF k h).1; omega); have hbx := (q2.block D (gE HBA.out).1 (fun e => by have := (hF D e).1; omega)).trans HBA.out; have hrs := (q2.block R (gE HRS.out).1 (fun e => by have := (hF R e).1; omega)).trans HRS.out; have hoo : Only (fun _ => False) w wZ := (HDF.out.only.trans' HOA.out (fun q hq e => by have e : q = b := e; omega)).trans' q2 (fun q hq h => by have := (hF q h).1; omega); have oy : Only (fun k => k = D) wZ (wZ.setCell ⟨D, 0, none⟩ (.slice aN (os.length + 1) cN)) := (Only.refl (fun k => k = D) wZ).setCell (p := ⟨D, 0, none⟩) (.inl rfl) _; have hB6 := heap_set (o := 0) hbx (.slice aN (os.length + 1) cN); have hB6 : (wZ.setCell ⟨D, 0, none⟩ (.slice aN (os.length + 1) cN)).heap[D]? = some (.cells #[.slice aN (os.length + 1) cN, .slice aL fs.length cL] 26 (0, 0)) := by simpa using hB6
        have hd9 := hdd.only oy (fun k hk e => by have e : k = D := e; omega); have hpos := HDF.out.rd.few.2; obtain ⟨hfew, acc, hao, haf, htl⟩ := HDF.out.ok _ _ rfl; rw [doc_step HCL.out, defP_op acc HNF.out, HTOT.out] at htl; have hnew : DF w b D R all tot false (wZ.setCell ⟨D, 0, none⟩ (.slice aN (os.length + 1) cN)) total.unit (.slice aN (os.length + 1) cN) (.slice aL fs.length cL) (os ++ [row]) fs := by
         refine ⟨hd9, hB6, kB oy hrs (by omega), hrow2.only oy (fun k h1 h2 e => by have e : k = D := e; omega), hoo.trans' oy (fun q hq e => by have e : q = D := e; omega), fun u r e => ?_, fun a e h => ⟨rfl, ?_⟩⟩
         ·cases hq : total with
          | bad a e' => rw [hq] at e; cases e
          | ok x r2 =>
           rw [hq] at e htl
           injection e with _ e; subst e
           have hl := opdP_takes _ _ _ (HTOT.out.trans hq); exact ⟨by simp only [List.length_append, List.length_singleton]; omega, ⟨acc.ops ++ [x], acc.frags⟩, by rw [hao, HRX.out x _ hq, List.map_append]; rfl, haf, htl⟩
         ·cases hq : total with
          | bad a' e' => rw [hq] at h htl; injection h with h1 h2; subst h1; subst h2; exact htl
          | ok x r2 => rw [hq] at h; cases h
        have hmu : muF (wZ.setCell ⟨D, 0, none⟩ (.slice aN (os.length + 1) cN)) b all < muF wr b all := by
         rw [muF_ok HDF.out.rd]
         cases hq : total with
         | bad p q => rw [hq] at hd9; rw [muF_bad hd9]; omega
         | ok x r2 => rw [hq] at hd9; rw [muF_ok (u := ()) hd9]; have hl := opdP_takes _ _ _ (HTOT.out.trans hq); omega
        have HNEW := hid hnew; have HMU := hid hmu; clear hnew hmu htl hao haf hfew hoo hdd hd9 hB6 hbx hrs oy hrow2 q1 q2 q3 gL1 gL2 hF HRA HDA HBA HBn HRS HOA HW HO92 HY92 hpos
        go_wp2_with fail
        go_roundw
        case rel => first | exact ⟨false, rfl, hid ⟨_, _, _, _, _, HNEW.out⟩⟩ | ((repeat apply Exists.intro); refine ⟨?_, rfl⟩; exact ⟨false, rfl, hid ⟨_, _, _, _, _, HNEW.out⟩⟩)
        case measure => exact HMU.out
       have T := hid (fEat_any b all (.ok () rz) [41] w90 HDV.out.rd); unfold tookF at T; obtain ⟨bb, hb⟩ := eX (tst (.ok () rz : PR Unit) (isT [41])); rw [hb] at T; have HBT := hid (show isT [41] rz = bb from hb); clear hb
       cases bb with
       | true =>
        rw [if_pos rfl] at T; obtain ⟨acc, hK, htl⟩ := HDV.out.ls.stop HBT.out; have HK := hid hK; have HTL := hid htl; clear hK htl
        go_wp2_with fail
        refine T.out.mono ?_
        rintro e w91 ⟨rfl, hd, o4⟩; clear ce cz; have HY91 := hid (kB o4 HDV.out.box (by omega)); have HO91 := hid (HDV.out.only.trans o4); have hd : Rf w91 b all (.ok () rz.tail) := hd; have HJ91 := hid (HEXX.out w91 (.ok () rz.tail) rv aV cV hd (by rw [HTL.out]; rfl) (fun x q e => (by rw [HTL.out] at e; injection e with e _; subst e; exact HK.out)) (HDV.out.own.only o4 (fun k h1 h2 e => by have e : k = b := e; omega))); have HD91 := hid hd; obtain ⟨σ91, hs91⟩ : ∃ x : PR Unit, PR.ok () rz.tail = x := ⟨_, rfl⟩; rw [hs91] at HJ91 HD91; have HC91_91 := hid (Only.refl (fun k => k ≤ Y) w91); clear hd o4 T HDV HK HTL hs91 HBT
        go_upto_region 29 with (fail)
        have HJu := HJ91.out; unfold opS at HJu; clear HJ91; have HJ91 := hid HJu; clear HJu; have J := hid (fset_any 24 b all σ91 w91 HAD.out HD91.out)
        go_wp2_with fail
        refine J.out.mono ?_
        rintro e w92 ⟨v, rfl, ⟨ar92, lr92, cr92, rfl⟩, hd, hv, o4⟩; have hsy : Y < w91.heap.size := (gE HY91.out).1; have hv : ∀ x q, (σ91.bind fun _ => (setP 24)) = .ok x q → CellAt w92 (fun q => Y < q) (.row 7 (x.map selC)) (.slice ar92 lr92 cr92) := fun x q e => CellAt.weaken (fun q _ h => by have h : w91.heap.size ≤ q := h; show Y < q; omega) _ _ (hv x q e)
        obtain ⟨σ92, hσ⟩ := eX ((σ91.bind fun _ => (setP 24)).unit); rw [hσ] at hd; have hj := Jn.call (fun x => CellAt w92 (fun q => Y < q) (.row 7 (x.map selC)) (.slice ar92 lr92 cr92)) HJ91.out hσ.symm hv; have HJ92 := hid hj; have HD92 := hid hd; clear hj hd hv hσ HJ91 J hsy; have hy92 := kB o4 HY91.out (by omega); have HY92 := hid hy92; have HC91_92 := hid (HC91_91.out.trans' o4 (fun q hq e => by have e : q = b := e; show q ≤ Y; omega)); have HO92 := hid (HO91.out.trans' o4 (fun q hq e => by exact e)); clear hy92; have HC92_92 := hid (Only.refl (fun k => k ≤ Y) w92); clear o4; clear HO91 HD91 HY91 HC91_91; obtain ⟨y0, y1, y2, y3, yz⟩ := boxN4 HY92.out
        go_upto_region 30 with (fail)
        clear y0 y1 y2 y3 yz; have hy93 := heap_set (o := 3) HY92.out (.slice ar92 lr92 cr92); have hy93 : (w92.setCell ⟨Y, 3, none⟩ (.slice ar92 lr92 cr92)).heap[Y]? = some (.cells #[.bool m, .string ⟨sn.toArray⟩, .slice aV rv.length cV, .slice ar92 lr92 cr92] 56 (0, 0)) := by simpa using hy93
        have os93 : Only (fun k => k = Y) w92 (w92.setCell ⟨Y, 3, none⟩ (.slice ar92 lr92 cr92)) := (Only.refl (fun k => k = Y) _).setCell (p := ⟨Y, 3, none⟩) (.inl rfl) _; obtain ⟨w93, hw93⟩ := eX (w92.setCell ⟨Y, 3, none⟩ (.slice ar92 lr92 cr92)); rw [hw93] at hy93 os93; rw [hw93]; clear hw93; have HY93 := hid hy93; have HD93 := hid (HD92.out.only os93 (fun k hk e => by omega)); have HJ93 := HJ92; have HC91_93 := hid (HC91_92.out.trans' os93 (fun q hq e => by have e : q = Y := e; show q ≤ Y; omega)); have HC92_93 := hid (HC92_92.out.trans' os93 (fun q hq e => by have e : q = Y := e; show q ≤ Y; omega)); have HO93 := hid (HO92.out.trans' os93 (fun q hq e => by have e : q = Y := e; have := HWY.out; omega)); clear hy93 os93 HJ92; clear HO92 HD92 HY92 HC91_92 HC92_92; obtain ⟨hdn, hxs⟩ := HJ93.out.done; have o91 := HC91_93.out; have o92 := HC92_93.out; have hvc : ∀ x q, total = .ok x q → CellsAt w93 (fun q => Y < q ∧ q < w93.heap.size) (opC x) [.bool m, .string ⟨sn.toArray⟩, .slice aV rv.length cV, .slice ar92 lr92 cr92] := fun x q e => by
         obtain ⟨⟨⟨u, vs⟩, sb⟩, rfl, ⟨⟨-, k0⟩, k9⟩⟩ := hxs x q e; exact CellsAt.lit rfl (CellsAt.lit rfl (CellsAt.cons (CellAt.weaken (G' := fun q => Y < q ∧ q < w93.heap.size) (fun q hq h => ⟨h, hq⟩) _ _ (CellAt.only o91 (fun k hk e => by have hk : Y < k := hk; have e : k ≤ Y := e; omega) _ _ k0)) (CellsAt.cons (CellAt.weaken (G' := fun q => Y < q ∧ q < w93.heap.size) (fun q hq h => ⟨h, hq⟩) _ _ (CellAt.only o92 (fun k hk e => by have hk : Y < k := hk; have e : k ≤ Y := e; omega) _ _ k9)) (CellsAt.nil _ _))))
        have hdz : Rf w93 b all total.unit := by rw [← hdn]; exact HD93.out
        obtain ⟨row, hrow, hrx⟩ := elem_row (P := total) (enc := opC) (ys := [.bool m, .string ⟨sn.toArray⟩, .slice aV rv.length cV, .slice ar92 lr92 cr92]) hvc (by intro u hu; simp at hu; rcases hu with rfl | rfl | rfl | rfl <;> rfl); have HDZ := hid hdz; have HROW := hid hrow; have HRX := hid hrx; clear hdn hxs hvc hdz hrow hrx HD93 HJ93 o91 o92; obtain ⟨G, hG⟩ := eX (w93.heap.size); obtain ⟨wA, hwa⟩ := eX (w93.alloc (.cells #[.bool m, .string ⟨sn.toArray⟩, .slice aV rv.length cV, .slice ar92 lr92 cr92] 56)); have og : Only (fun _ => False) w93 wA := by rw [← hwa]; exact (Only.refl _ _).alloc _
        have hgg : wA.heap[G]? = some (.cells #[.bool m, .string ⟨sn.toArray⟩, .slice aV rv.length cV, .slice ar92 lr92 cr92] 56 (0, 0)) := by rw [← hwa, ← hG]; exact heap_new _ _
        have hgs : G + 1 = wA.heap.size := by rw [← hwa, World.size_alloc, hG]
        have hgw : wr.heap.size ≤ G := by have := HO93.out.size; omega
        have HOA := hid (HO93.out.trans' og (fun q _ e => e.elim)); have HW := hid (HDF.out.own.only HOA.out (fun k h1 h2 e => by have e : k = b := e; omega)); have HRA := hid (show CellsAt wA (fun q => (D + 1 ≤ q ∧ (Value.slice aK os.length cK).ownBlock ≠ some q ∧ q < wA.heap.size) ∧ (Value.slice aL fs.length cL).ownBlock ≠ some q) row [.bool m, .string ⟨sn.toArray⟩, .slice aV rv.length cV, .slice ar92 lr92 cr92] from CellsAt.weaken (fun q hq h => by have h1 : Y < q := h.1; have := HWY.out; have := HDL.out; exact ⟨⟨by omega, fun e => by have := (HFK.out q e).2; omega, hq⟩, fun e => by have := (HFL.out q e).2; omega⟩) _ _ (CellsAt.only og (fun _ _ h => h) _ _ HROW.out)); have HDA := hid (HDZ.out.still og); have HBn := hid ((HO93.out.block D HDL.out (by omega)).trans HDF.out.box); have HBA := hid ((HOA.out.block D HDL.out (by omega)).trans HDF.out.box); have HRS := hid ((HOA.out.block R (gE HDF.out.res).1 (by omega)).trans HDF.out.res); obtain ⟨xs, p1', p2'⟩ := HW.out.swap.l; have hys : ∀ j u, ([.bool m, .string ⟨sn.toArray⟩, .slice aV rv.length cV, .slice ar92 lr92 cr92] : List Value)[j]? = some u → wA.cell? ((⟨G, 0, none⟩ : Addr).add j) = some u := fun j u hu => by rw [addr_add]; exact range_of_block (cs := [.bool m, .string ⟨sn.toArray⟩, .slice aV rv.length cV, .slice ar92 lr92 cr92]) hgg j u hu
        have hone : ∀ u ∈ ([.bool m, .string ⟨sn.toArray⟩, .slice aV rv.length cV, .slice ar92 lr92 cr92] : List Value), u.oneCell' = true := by intro u hu; simp at hu; rcases hu with rfl | rfl | rfl | rfl <;> rfl
        have HYS := hid hys; have HONE := hid hone; have HP1 := hid p1'; have HP2 := hid p2'; have HG := hid hG; have HWA := hid hwa; have HGS := hid hgs; have HGW := hid hgw; clear hys hone p1' p2' hG hwa hgs hgg og hgw; obtain ⟨y0, y1, y2, y3, yz⟩ := boxN4 HY93.out; obtain ⟨c0, c1, cz⟩ := boxN2 HBn.out
        go_wp2_with ((rw [HG.out, HWA.out]; refine wpList_append_own2 (o := ⟨some 119, _, _, _, _, _⟩) rfl (.tmp 116) (.tmp 118) 23 56 (by rfl) Tryz.underlying23 infoOp rfl (by decide) (D + 1) (.slice aK os.length cK) os.length 1 1 xs [.bool m, .string ⟨sn.toArray⟩, .slice aV rv.length cV, .slice ar92 lr92 cr92] ⟨G, 0, none⟩ (by rfl) (by rfl) HP1.out (by rfl) HYS.out HONE.out (by have := HFEW.out; unfold maxLen; omega) (by have := HFEW.out; omega) (by have := HGS.out; have := HGW.out; have := HDL.out; omega) ?_; intro v' wZ q1 q2 q3; obtain ⟨aN, cN, eN, gL1, gL2, -⟩ := own_form q1; subst eN; clear c0 c1 cz y0 y1 y2 y3 yz; obtain ⟨c0, c1, cz⟩ := boxN2 ((q2.block D (gE HBA.out).1 (fun e => by have := (HFK.out D e).1; omega)).trans HBA.out)))
        have hF := HFK.out; have hrow2 := (OwnTwo.append HW.out.swap HP1.out HP2.out rfl HRA.out q1 q2 q3).swap; have hdd := HDA.out.only q2 (fun k hk h => by have := (hF k h).1; omega); have hbx := (q2.block D (gE HBA.out).1 (fun e => by have := (hF D e).1; omega)).trans HBA.out; have hrs := (q2.block R (gE HRS.out).1 (fun e => by have := (hF R e).1; omega)).trans HRS.out; have hoo : Only (fun _ => False) w wZ := (HDF.out.only.trans' HOA.out (fun q hq e => by have e : q = b := e; omega)).trans' q2 (fun q hq h => by have := (hF q h).1; omega); have oy : Only (fun k => k = D) wZ (wZ.setCell ⟨D, 0, none⟩ (.slice aN (os.length + 1) cN)) := (Only.refl (fun k => k = D) wZ).setCell (p := ⟨D, 0, none⟩) (.inl rfl) _; have hB6 := heap_set (o := 0) hbx (.slice aN (os.length + 1) cN); have hB6 : (wZ.setCell ⟨D, 0, none⟩ (.slice aN (os.length + 1) cN)).heap[D]? = some (.cells #[.slice aN (os.length + 1) cN, .slice aL fs.length cL] 26 (0, 0)) := by simpa using hB6
        have hd9 := hdd.only oy (fun k hk e => by have e : k = D := e; omega); have hpos := HDF.out.rd.few.2; obtain ⟨hfew, acc, hao, haf, htl⟩ := HDF.out.ok _ _ rfl; rw [doc_step HCL.out, defP_op acc HNF.out, HTOT.out] at htl; have hnew : DF w b D R all tot false (wZ.setCell ⟨D, 0, none⟩ (.slice aN (os.length + 1) cN)) total.unit (.slice aN (os.length + 1) cN) (.slice aL fs.length cL) (os ++ [row]) fs := by
         refine ⟨hd9, hB6, kB oy hrs (by omega), hrow2.only oy (fun k h1 h2 e => by have e : k = D := e; omega), hoo.trans' oy (fun q hq e => by have e : q = D := e; omega), fun u r e => ?_, fun a e h => ⟨rfl, ?_⟩⟩
         ·cases hq : total with
          | bad a e' => rw [hq] at e; cases e
          | ok x r2 =>
           rw [hq] at e htl
           injection e with _ e; subst e
           have hl := opdP_takes _ _ _ (HTOT.out.trans hq); exact ⟨by simp only [List.length_append, List.length_singleton]; omega, ⟨acc.ops ++ [x], acc.frags⟩, by rw [hao, HRX.out x _ hq, List.map_append]; rfl, haf, htl⟩
         ·cases hq : total with
          | bad a' e' => rw [hq] at h htl; injection h with h1 h2; subst h1; subst h2; exact htl
          | ok x r2 => rw [hq] at h; cases h
        have hmu : muF (wZ.setCell ⟨D, 0, none⟩ (.slice aN (os.length + 1) cN)) b all < muF wr b all := by
         rw [muF_ok HDF.out.rd]
         cases hq : total with
         | bad p q => rw [hq] at hd9; rw [muF_bad hd9]; omega
         | ok x r2 => rw [hq] at hd9; rw [muF_ok (u := ()) hd9]; have hl := opdP_takes _ _ _ (HTOT.out.trans hq); omega
        have HNEW := hid hnew; have HMU := hid hmu; clear hnew hmu htl hao haf hfew hoo hdd hd9 hB6 hbx hrs oy hrow2 q1 q2 q3 gL1 gL2 hF HRA HDA HBA HBn HRS HOA HW HO93 HY93 hpos
        go_wp2_with fail
        go_roundw
        case rel => first | exact ⟨false, rfl, hid ⟨_, _, _, _, _, HNEW.out⟩⟩ | ((repeat apply Exists.intro); refine ⟨?_, rfl⟩; exact ⟨false, rfl, hid ⟨_, _, _, _, _, HNEW.out⟩⟩)
        case measure => exact HMU.out
       | false =>
        rw [if_neg (by decide)] at T
        go_wp2_with fail
        refine T.out.mono ?_
        rintro e w20 ⟨rfl, hd, o4⟩; clear ce cz; have HMU0 := hid (show muF w20 b all = muF w90 b all by rw [muF_ok (show Rf w20 b all (.ok () rz) from hd), muF_ok HDV.out.rd]); have HDV2 := hid (show DV tl wr wl b Y all m sn false (.ok () rz) w20 rv (.slice aV rv.length cV) from ⟨hd, kB o4 HDV.out.box (by omega), HDV.out.own.only o4 (fun k h1 h2 e => by have e : k = b := e; omega), HDV.out.only.trans o4, HDV.out.onl.trans' o4 (fun q _ e => .inl e), HDV.out.ls⟩); have HCL2 := hid (show false = true ∨ isT [41] rz = false from .inr HBT.out); clear hd o4 T HDV HBT; have HFV := hid (show ∀ k, (Value.slice aV rv.length cV).ownBlock = some k → wl.heap.size ≤ k ∧ k < w20.heap.size from fun k hk => by obtain ⟨_, _, _, _, _, h3⟩ := HDV2.out.own.form; exact h3 k hk); have hYw : Y < w20.heap.size := (gE HDV2.out.box).1; have hlw : wl.heap.size ≤ w20.heap.size := HDV2.out.onl.size; have HFW := hid (show rv.length + 1 ≤ 1000000 by have h1 := (HDV2.out.ls.ok _ _ rfl).1; have h2 := HDV2.out.rd.few.2; omega)
        go_upto_region 28 with (fail)
        refine wp_region_stepsM 7 (by kernel_rfl) rfl (by kernel_rfl) [some 105, some 106, some 107, some 108, some 109, some 110, some 111] rfl rfl 3 5 (fun q => q = b) (fun q => (Value.slice aV rv.length cV).ownBlock = some q) [4, 5, 6, 7] (by kernel_rfl) [2] (by kernel_rfl) (by decide) (by decide) (.inr ⟨by decide, by decide⟩) [(fun v _ => v = (.pointer (some ⟨Y, 2, none⟩))), (fun v _ => v = (.slice aV rv.length cV)), (fun v _ => v = (.pointer (some ⟨b, 0, none⟩))), (fun v w1 => ∃ (s0 s1 : List UInt8) (a1 : Option Addr) (l1 e1 : Nat) (b1 b2 : Bool) (k : Nat) (n : Int) (s2 : List UInt8) (a2 : Option Addr) (l2 e2 : Nat) (a3 : Option Addr) (l3 e3 : Nat) (row : List Cell), v = .agg #[.string ⟨s0.toArray⟩, .string ⟨s1.toArray⟩, .slice a1 l1 e1, .bool b1, .bool b2, .int .u8 (k : Int), .int .i64 n, .string ⟨s2.toArray⟩, .slice a2 l2 e2, .slice a3 l3 e3] ∧ CellsAt w1 (fun q => w20.heap.size ≤ q) row [.string ⟨s0.toArray⟩, .string ⟨s1.toArray⟩, .slice a1 l1 e1, .bool b1, .bool b2, .int .u8 (k : Int), .int .i64 n, .string ⟨s2.toArray⟩, .slice a2 l2 e2, .slice a3 l3 e3] ∧ (∀ x q, varP rz = .ok x q → row = vdC x) ∧ Rf w1 b all (varP rz).unit), (fun v w1 => ∃ (g : Nat) (cs : List Value) (row : List Cell), v = .slice (some ⟨g, 0, none⟩) 1 1 ∧ w20.heap.size ≤ g ∧ g < w1.heap.size ∧ cs.length = 10 ∧ w1.rangeAt g 0 cs ∧ CellsAt w1 (fun q => w20.heap.size ≤ q) row cs ∧ (∀ x q, varP rz = .ok x q → row = vdC x) ∧ Rf w1 b all (varP rz).unit), (fun v w1 => ∃ row : List Cell, OwnRow w1 wl.heap.size 60 10 v (rv ++ [row]) ∧ (∀ q, v.ownBlock = some q → (Value.slice aV rv.length cV).ownBlock = some q ∨ w20.heap.size ≤ q) ∧ (∀ x q, varP rz = .ok x q → row = vdC x) ∧ Rf w1 b all (varP rz).unit), (fun v _ => v = (.pointer (some ⟨Y, 2, none⟩)))] rfl ⟨?_, ?_, ?_, ?_, ?_, ?_, ?_, trivial⟩ _ rfl ⟨?_, ?_, ?_, ?_, ?_, ?_, ?_, trivial⟩ ?_
        iterate 3 exact Stable.is _ _
        ·intro v w1 w2 h ho; have ho : Only (fun q => (Value.slice aV rv.length cV).ownBlock = some q) w1 w2 := ho; exact (by obtain ⟨s0, s1, a1, l1, e1, b1, b2, k, n, s2, a2, l2, e2, a3, l3, e3, row, e1', e2', e3', e4'⟩ := h; exact ⟨s0, s1, a1, l1, e1, b1, b2, k, n, s2, a2, l2, e2, a3, l3, e3, row, e1', CellsAt.only ho (fun q hq hk => by have := (HFV.out q hk).2; have hq : w20.heap.size ≤ q := hq; omega) _ _ e2', e3', e4'.only ho (fun k hk h => by have := (HFV.out k h).1; omega)⟩)
        ·intro v w1 w2 h ho; have ho : Only (fun q => (Value.slice aV rv.length cV).ownBlock = some q) w1 w2 := ho; exact (by obtain ⟨g, cs, row, e1', e2', e3', e4', e5', e6', e7', e8'⟩ := h; have hng : ¬ (Value.slice aV rv.length cV).ownBlock = some g := fun hk => (by have := (HFV.out g hk).2; omega); exact ⟨g, cs, row, e1', e2', Nat.lt_of_lt_of_le e3' ho.size, e4', range_keep e5' e3' ho hng, CellsAt.only ho (fun q hq hk => by have := (HFV.out q hk).2; have hq : w20.heap.size ≤ q := hq; omega) _ _ e6', e7', e8'.only ho (fun k hk h => by have := (HFV.out k h).1; omega)⟩)
        ·intro v w1 w2 h ho; have ho : Only (fun _ => False) w1 w2 := ho; exact (by obtain ⟨row, e1', e2', e3', e4'⟩ := h; exact ⟨row, e1'.only ho (fun _ _ _ h => h), e2', e3', e4'.still ho⟩)
        ·exact Stable.is _ _
        ·intro x wx ox hN TT HTT; have ox : Only (fun q => (fun q => q = b) q ∨ (fun q => (Value.slice aV rv.length cV).ownBlock = some q) q) _ wx := ox; unfold StepTo; simp only [putAll, Act.put, zA, zB, zC]; clear hN
         go_wp2_with fail
         exact ⟨rfl, _, rfl, HTT.out _ _ rfl oR⟩
        ·intro x wx ox hN TT HTT; have ox : Only (fun q => (fun q => q = b) q ∨ (fun q => (Value.slice aV rv.length cV).ownBlock = some q) q) _ wx := ox; unfold StepTo; simp only [putAll, Act.put, zA, zB, zC, eI (hN.1 rfl)]; clear hN; have hbx := (ox.block _ hYw (fun h => by rcases h with h | h; omega; (have := (HFV.out _ h).1; omega))).trans HDV2.out.box; obtain ⟨c0, c1, c2, c3, fz⟩ := boxN4 hbx; clear hbx
         go_wp2_with fail
         exact ⟨rfl, _, rfl, HTT.out _ _ rfl oR⟩
        ·intro x wx ox hN TT HTT; have ox : Only (fun _ => False) _ wx := ox; unfold StepTo; simp only [putAll, Act.put, zA, zB, zC]; clear hN
         go_wp2_with fail
         exact ⟨rfl, _, rfl, HTT.out _ _ rfl oR⟩
        ·intro x wx ox hN TT HTT; have ox : Only (fun _ => False) _ wx := ox; unfold StepTo; simp only [putAll, Act.put, zA, zB, zC, eI (hN.1 rfl)]; clear hN; have ht := fvar_any b all HDP.out (.ok () rz) wx (HDV2.out.rd.still (((Only.refl _ w20).drew).trans ox)); have hsl : w20.heap.size ≤ wx.heap.size := ox.size; have HT := hid ht; have HSL := hid hsl; clear ht hsl
         go_wp2_with fail
         refine HT.out.mono ?_
         rintro e w6 ⟨v6, rfl, ⟨s0, s1, a1, l1, e1, b1, b2, k, n, s2, a2, l2, e2, a3, l3, e3, rfl⟩, h6, hv6, o6⟩; have hvc : ∀ x q, varP rz = .ok x q → CellsAt w6 (fun q => w20.heap.size ≤ q) (vdC x) [.string ⟨s0.toArray⟩, .string ⟨s1.toArray⟩, .slice a1 l1 e1, .bool b1, .bool b2, .int .u8 (k : Int), .int .i64 n, .string ⟨s2.toArray⟩, .slice a2 l2 e2, .slice a3 l3 e3] := fun x q e => CellsAt.weaken (fun q _ h => Nat.le_trans HSL.out h) _ _ (aggF_cells (hv6 x q e))
         obtain ⟨row, hrow, hrx⟩ := elem_row (P := varP rz) (enc := vdC) (ys := [.string ⟨s0.toArray⟩, .string ⟨s1.toArray⟩, .slice a1 l1 e1, .bool b1, .bool b2, .int .u8 (k : Int), .int .i64 n, .string ⟨s2.toArray⟩, .slice a2 l2 e2, .slice a3 l3 e3]) hvc (by intro u hu; simp at hu; rcases hu with rfl | rfl | rfl | rfl | rfl | rfl | rfl | rfl | rfl | rfl <;> rfl); have H6 := hid (show Rf w6 b all (varP rz).unit from h6); have O6 := hid o6; have HV6 := hid hrow; have HX6 := hid hrx; clear h6 o6 hv6 hvc hrow hrx
         go_wp2_with fail
         exact ⟨rfl, _, rfl, HTT.out _ _ (⟨s0, s1, a1, l1, e1, b1, b2, k, n, s2, a2, l2, e2, a3, l3, e3, row, rfl, HV6.out, HX6.out, H6.out⟩) (O6.out)⟩
        ·intro x wx ox hN TT HTT; have ox : Only (fun q => (fun q => q = b) q ∨ (fun q => (Value.slice aV rv.length cV).ownBlock = some q) q) _ wx := ox; have r108 : (fun (v : Value) (w1 : World) => ∃ (s0 s1 : List UInt8) (a1 : Option Addr) (l1 e1 : Nat) (b1 b2 : Bool) (k : Nat) (n : Int) (s2 : List UInt8) (a2 : Option Addr) (l2 e2 : Nat) (a3 : Option Addr) (l3 e3 : Nat) (row : List Cell), v = .agg #[.string ⟨s0.toArray⟩, .string ⟨s1.toArray⟩, .slice a1 l1 e1, .bool b1, .bool b2, .int .u8 (k : Int), .int .i64 n, .string ⟨s2.toArray⟩, .slice a2 l2 e2, .slice a3 l3 e3] ∧ CellsAt w1 (fun q => w20.heap.size ≤ q) row [.string ⟨s0.toArray⟩, .string ⟨s1.toArray⟩, .slice a1 l1 e1, .bool b1, .bool b2, .int .u8 (k : Int), .int .i64 n, .string ⟨s2.toArray⟩, .slice a2 l2 e2, .slice a3 l3 e3] ∧ (∀ x q, varP rz = .ok x q → row = vdC x) ∧ Rf w1 b all (varP rz).unit) (x 3) wx := hN.1 rfl; unfold StepTo; simp only [putAll, Act.put, zA, zB, zC]; clear hN; obtain ⟨s0, s1, a1, l1, e1, b1, b2, k, n, s2, a2, l2, e2, a3, l3, e3, row, e1', e2', e3', e4'⟩ := r108; simp only [e1']; have hn := heap_new wx (.cells #[.string ⟨s0.toArray⟩, .string ⟨s1.toArray⟩, .slice a1 l1 e1, .bool b1, .bool b2, .int .u8 (k : Int), .int .i64 n, .string ⟨s2.toArray⟩, .slice a2 l2 e2, .slice a3 l3 e3] 60); have on := (Only.refl (fun _ => False) wx).alloc (.cells #[.string ⟨s0.toArray⟩, .string ⟨s1.toArray⟩, .slice a1 l1 e1, .bool b1, .bool b2, .int .u8 (k : Int), .int .i64 n, .string ⟨s2.toArray⟩, .slice a2 l2 e2, .slice a3 l3 e3] 60); have hgl : w20.heap.size ≤ wx.heap.size := ox.size; have H3 := hid e4'; have HNB := hid hn; have ON := hid on; have HGL2 := hid hgl; have HV2 := hid e2'; have HX2 := hid e3'; clear e1' e2' e3' e4' hn on hgl
         go_wp2_with fail
         exact ⟨rfl, _, rfl, HTT.out _ _ (⟨wx.heap.size, _, row, rfl, HGL2.out, by simp, rfl, range_of_block HNB.out, CellsAt.only ON.out (fun _ _ h => h) _ _ HV2.out, HX2.out, H3.out.still ON.out⟩) (ON.out)⟩
        ·intro x wx ox hN TT HTT; have ox : Only (fun q => q = b) _ wx := ox; have r109 : (fun (v : Value) (w1 : World) => ∃ (g : Nat) (cs : List Value) (row : List Cell), v = .slice (some ⟨g, 0, none⟩) 1 1 ∧ w20.heap.size ≤ g ∧ g < w1.heap.size ∧ cs.length = 10 ∧ w1.rangeAt g 0 cs ∧ CellsAt w1 (fun q => w20.heap.size ≤ q) row cs ∧ (∀ x q, varP rz = .ok x q → row = vdC x) ∧ Rf w1 b all (varP rz).unit) (x 4) wx := hN.2.1 rfl; have r108 : (fun (v : Value) (w1 : World) => ∃ (s0 s1 : List UInt8) (a1 : Option Addr) (l1 e1 : Nat) (b1 b2 : Bool) (k : Nat) (n : Int) (s2 : List UInt8) (a2 : Option Addr) (l2 e2 : Nat) (a3 : Option Addr) (l3 e3 : Nat) (row : List Cell), v = .agg #[.string ⟨s0.toArray⟩, .string ⟨s1.toArray⟩, .slice a1 l1 e1, .bool b1, .bool b2, .int .u8 (k : Int), .int .i64 n, .string ⟨s2.toArray⟩, .slice a2 l2 e2, .slice a3 l3 e3] ∧ CellsAt w1 (fun q => w20.heap.size ≤ q) row [.string ⟨s0.toArray⟩, .string ⟨s1.toArray⟩, .slice a1 l1 e1, .bool b1, .bool b2, .int .u8 (k : Int), .int .i64 n, .string ⟨s2.toArray⟩, .slice a2 l2 e2, .slice a3 l3 e3] ∧ (∀ x q, varP rz = .ok x q → row = vdC x) ∧ Rf w1 b all (varP rz).unit) (x 3) wx := hN.2.2.1 rfl; unfold StepTo; simp only [putAll, Act.put, zA, zB, zC, eI (hN.1 rfl)]; clear hN; obtain ⟨g, cs, row, e1', e2', e3', e4', e5', e6', e7', e8'⟩ := r109; simp only [e1']; obtain ⟨xs, p1, p2⟩ := HDV2.out.own.only (((Only.refl _ w20).drew).trans ox) (fun k h1 h2 e => by have e : k = b := e; omega); have hys : ∀ j u, cs[j]? = some u → wx.cell? ((⟨g, 0, none⟩ : Addr).add j) = some u := fun j u hu => by rw [addr_add]; exact e5' j u hu
         have hone : ∀ u ∈ cs, u.oneCell' = true := CellsAt.one e6'; have hsl : w20.heap.size ≤ wx.heap.size := ox.size; have HP1 := hid p1; have HP2 := hid p2; have HYS := hid hys; have HSL := hid hsl; have H6 := hid e8'; have HV6 := hid e6'; have HONE := hid hone; have HX6 := hid e7'; clear p1 p2 hys hsl e8' e7' e6' e5' e1' hone
         go_wp2_with ((refine wpList_append_own2 (o := ⟨some 110, _, _, _, _, _⟩) rfl (.tmp 106) (.tmp 109) 54 60 (by rfl) Tryz.underlying54 infoVd rfl (by decide) wl.heap.size (.slice aV rv.length cV) rv.length 1 1 xs cs ⟨g, 0, none⟩ (by rfl) (by rfl) HP1.out (by rw [e4']) HYS.out HONE.out (by have := HFW.out; unfold maxLen; omega) (by have := HFW.out; omega) (by have := HSL.out; omega) ?_; intro v' w9 q1 q2 q3))
         have hv8 : CellsAt wx (fun q => wl.heap.size ≤ q ∧ (Value.slice aV rv.length cV).ownBlock ≠ some q ∧ q < wx.heap.size) row cs := CellsAt.weaken (fun q hq h => by have h : w20.heap.size ≤ q := h; exact ⟨by omega, fun hv => (by have := (HFV.out q hv).2; omega), hq⟩) _ _ HV6.out; have hrow := OwnRow.append (r := row) HP1.out HP2.out e4' hv8 q1 q2 q3; exact ⟨rfl, _, rfl, HTT.out _ _ (⟨row, hrow, fun q hq => (q3 q hq).imp id (fun h => Nat.le_trans HSL.out h), HX6.out, H6.out.only q2 (fun k hk h => by have := (HFV.out k h).1; omega)⟩) (q2)⟩
        ·intro x wx ox hN TT HTT; have ox : Only (fun q => (fun q => q = b) q ∨ (fun q => (Value.slice aV rv.length cV).ownBlock = some q) q) _ wx := ox; have r108 : (fun (v : Value) (w1 : World) => ∃ (s0 s1 : List UInt8) (a1 : Option Addr) (l1 e1 : Nat) (b1 b2 : Bool) (k : Nat) (n : Int) (s2 : List UInt8) (a2 : Option Addr) (l2 e2 : Nat) (a3 : Option Addr) (l3 e3 : Nat) (row : List Cell), v = .agg #[.string ⟨s0.toArray⟩, .string ⟨s1.toArray⟩, .slice a1 l1 e1, .bool b1, .bool b2, .int .u8 (k : Int), .int .i64 n, .string ⟨s2.toArray⟩, .slice a2 l2 e2, .slice a3 l3 e3] ∧ CellsAt w1 (fun q => w20.heap.size ≤ q) row [.string ⟨s0.toArray⟩, .string ⟨s1.toArray⟩, .slice a1 l1 e1, .bool b1, .bool b2, .int .u8 (k : Int), .int .i64 n, .string ⟨s2.toArray⟩, .slice a2 l2 e2, .slice a3 l3 e3] ∧ (∀ x q, varP rz = .ok x q → row = vdC x) ∧ Rf w1 b all (varP rz).unit) (x 3) wx := hN.2.2.2.1 rfl; have r109 : (fun (v : Value) (w1 : World) => ∃ (g : Nat) (cs : List Value) (row : List Cell), v = .slice (some ⟨g, 0, none⟩) 1 1 ∧ w20.heap.size ≤ g ∧ g < w1.heap.size ∧ cs.length = 10 ∧ w1.rangeAt g 0 cs ∧ CellsAt w1 (fun q => w20.heap.size ≤ q) row cs ∧ (∀ x q, varP rz = .ok x q → row = vdC x) ∧ Rf w1 b all (varP rz).unit) (x 4) wx := hN.2.2.2.2.1 rfl; have r110 : (fun (v : Value) (w1 : World) => ∃ row : List Cell, OwnRow w1 wl.heap.size 60 10 v (rv ++ [row]) ∧ (∀ q, v.ownBlock = some q → (Value.slice aV rv.length cV).ownBlock = some q ∨ w20.heap.size ≤ q) ∧ (∀ x q, varP rz = .ok x q → row = vdC x) ∧ Rf w1 b all (varP rz).unit) (x 5) wx := hN.2.2.2.2.2.1 rfl; unfold StepTo; simp only [putAll, Act.put, zA, zB, zC, eI (hN.1 rfl), eI (hN.2.1 rfl), eI (hN.2.2.1 rfl)]; clear hN
         go_wp2_with fail
         exact ⟨rfl, _, rfl, HTT.out _ _ rfl oR⟩
        intro xz wxz oxz hN; have oxz : Only (fun q => (fun q => q = b) q ∨ (fun q => (Value.slice aV rv.length cV).ownBlock = some q) q) _ wxz := oxz; have r108 : (fun (v : Value) (w1 : World) => ∃ (s0 s1 : List UInt8) (a1 : Option Addr) (l1 e1 : Nat) (b1 b2 : Bool) (k : Nat) (n : Int) (s2 : List UInt8) (a2 : Option Addr) (l2 e2 : Nat) (a3 : Option Addr) (l3 e3 : Nat) (row : List Cell), v = .agg #[.string ⟨s0.toArray⟩, .string ⟨s1.toArray⟩, .slice a1 l1 e1, .bool b1, .bool b2, .int .u8 (k : Int), .int .i64 n, .string ⟨s2.toArray⟩, .slice a2 l2 e2, .slice a3 l3 e3] ∧ CellsAt w1 (fun q => w20.heap.size ≤ q) row [.string ⟨s0.toArray⟩, .string ⟨s1.toArray⟩, .slice a1 l1 e1, .bool b1, .bool b2, .int .u8 (k : Int), .int .i64 n, .string ⟨s2.toArray⟩, .slice a2 l2 e2, .slice a3 l3 e3] ∧ (∀ x q, varP rz = .ok x q → row = vdC x) ∧ Rf w1 b all (varP rz).unit) (xz 3) wxz := hN.2.2.2.1; have r109 : (fun (v : Value) (w1 : World) => ∃ (g : Nat) (cs : List Value) (row : List Cell), v = .slice (some ⟨g, 0, none⟩) 1 1 ∧ w20.heap.size ≤ g ∧ g < w1.heap.size ∧ cs.length = 10 ∧ w1.rangeAt g 0 cs ∧ CellsAt w1 (fun q => w20.heap.size ≤ q) row cs ∧ (∀ x q, varP rz = .ok x q → row = vdC x) ∧ Rf w1 b all (varP rz).unit) (xz 4) wxz := hN.2.2.2.2.1; have r110 : (fun (v : Value) (w1 : World) => ∃ row : List Cell, OwnRow w1 wl.heap.size 60 10 v (rv ++ [row]) ∧ (∀ q, v.ownBlock = some q → (Value.slice aV rv.length cV).ownBlock = some q ∨ w20.heap.size ≤ q) ∧ (∀ x q, varP rz = .ok x q → row = vdC x) ∧ Rf w1 b all (varP rz).unit) (xz 5) wxz := hN.2.2.2.2.2.1; simp only [putAll, Act.put, zA, zB, zC, eI hN.1, eI hN.2.1, eI hN.2.2.1, eI hN.2.2.2.2.2.2.1]; clear hN; obtain ⟨row, q1, q2, q4, q5⟩ := r110; obtain ⟨aN, cN, eN, gL1, gL2, gL3⟩ := q1.form; rw [List.length_append, List.length_singleton] at eN gL1; rw [eN] at q1 q2 gL3 ⊢; have gN2 : cN ≤ 9223372036854775807 := by unfold maxLen at gL2; omega
        have hYb := (oxz.block _ hYw (fun h => by rcases h with h | h; omega; (have := (HFV.out _ h).1; omega))).trans HDV2.out.box; obtain ⟨c0, c1, c2, c3, fz⟩ := boxN4 hYb; have hY6 := heap_set (o := 2) hYb (.slice aN (rv.length + 1) cN); have hY6 : (wxz.setCell ⟨Y, 2, none⟩ (.slice aN (rv.length + 1) cN)).heap[Y]? = some (.cells #[.bool m, .string ⟨sn.toArray⟩, .slice aN (rv.length + 1) cN, .slice none 0 0] 56 (0, 0)) := by simpa using hY6
        have o6 := (Only.refl (fun k => k = Y) wxz).setCell (p := ⟨Y, 2, none⟩) (.inl rfl) (.slice aN (rv.length + 1) cN); have hob : Only (fun q => q = b ∨ q = Y ∨ (Value.slice aV rv.length cV).ownBlock = some q) w20 (wxz.setCell ⟨Y, 2, none⟩ (.slice aN (rv.length + 1) cN)) := ((((Only.refl _ w20).drew).trans' oxz (fun q _ h => h.imp id .inr)).trans' o6 (fun q _ h => .inr (.inl h))); have hyr := HWY.out; have hlr : wr.heap.size ≤ wl.heap.size := by omega
        have hls := HDV2.out.ls.next (K' := fun acc => rv ++ [row] = acc.map vdC) varP_takes HDV2.out.rd.few.2 (by first | exact HCL2.out | exact .inl rfl) (fun acc x q h1 h2 => by rw [h1, q4 x q h2, List.map_append]; rfl); have hnew : DV tl wr wl b Y all m sn false (varP rz).unit (wxz.setCell ⟨Y, 2, none⟩ (.slice aN (rv.length + 1) cN)) (rv ++ [row]) (.slice aN (rv.length + 1) cN) := by
         refine ⟨q5.only o6 (fun k hk e => by have e : k = Y := e; omega), hY6, q1.only o6 (fun k h1 h2 e => by have e : k = Y := e; omega), HDV2.out.only.trans' hob (fun q hq h => ?_), HDV2.out.onl.trans' hob (fun q hq h => ?_), by rw [List.length_append, List.length_singleton]; exact hls⟩
         ·rcases h with h | h | h
          ·exact h
          ·omega
          ·have := (HFV.out q h).1; omega
         ·rcases h with h | h | h
          ·exact .inl h
          ·exact .inr h
          ·have := (HFV.out q h).1; omega
        have hmu : muF (wxz.setCell ⟨Y, 2, none⟩ (.slice aN (rv.length + 1) cN)) b all < muF w20 b all := by
         rw [muF_ok HDV2.out.rd]; have hd := hnew.rd
         cases hq : varP rz with
         | bad p q => rw [hq] at hd; rw [muF_bad hd]; omega
         | ok x r2 => rw [hq] at hd; rw [muF_ok (u := ()) hd]; have := varP_takes _ _ _ hq; omega
        obtain ⟨wn, hwn⟩ := eX (wxz.setCell ⟨Y, 2, none⟩ (.slice aN (rv.length + 1) cN)); rw [hwn] at hnew hmu; have HNEW := hid hnew; have HMU := hid hmu; have HWN := hid hwn; clear hnew hmu hls hyr hlr hob o6 hY6 hYb q1 q2 q4 q5 gL1 gL2 gL3 eN oxz hwn HDV2 HFV HFW HCL2
        go_wp2_with fail
        rw [HWN.out]; clear HWN c0 c1 c2 c3 fz
        go_wp2_with fail
        go_roundw
        case rel => exact hid ⟨_, _, _, HNEW.out⟩
        case measure => have h1 := HMU.out; have h2 := HMU0.out; omega
    ·
     go_wp2_with fail
     refine J.out.mono ?_
     rintro e w2 ⟨rfl, o4⟩; have HJ2 := hid (HJ1.out.yes HBT.out); have HD2 := hid (HD1.out.still o4); clear HJ1 HBT J; have hy2 := kB o4 HY1.out (fun h => h); have HY2 := hid hy2; have HO2 := hid (HO1.out.trans' o4 (fun q hq e => by exact e.elim)); clear hy2; clear o4; clear HO1 HD1 HY1; have HJu := HJ2.out; unfold opS at HJu; clear HJ2; have HJ2 := hid HJu; clear HJu; have J := hid (fset_any 24 b all σ0 w2 HAD.out HD2.out)
     go_wp2_with fail
     refine J.out.mono ?_
     rintro e w3 ⟨v, rfl, ⟨ar3, lr3, cr3, rfl⟩, hd, hv, o4⟩; have hsy : Y < w2.heap.size := (gE HY2.out).1; have hv : ∀ x q, (σ0.bind fun _ => (setP 24)) = .ok x q → CellAt w3 (fun q => Y < q) (.row 7 (x.map selC)) (.slice ar3 lr3 cr3) := fun x q e => CellAt.weaken (fun q _ h => by have h : w2.heap.size ≤ q := h; show Y < q; omega) _ _ (hv x q e)
     obtain ⟨σ3, hσ⟩ := eX ((σ0.bind fun _ => (setP 24)).unit); rw [hσ] at hd; have hj := Jn.call (fun x => CellAt w3 (fun q => Y < q) (.row 7 (x.map selC)) (.slice ar3 lr3 cr3)) HJ2.out hσ.symm hv; have HJ3 := hid hj; have HD3 := hid hd; clear hj hd hv hσ HJ2 J hsy; have hy3 := kB o4 HY2.out (by omega); have HY3 := hid hy3; have HO3 := hid (HO2.out.trans' o4 (fun q hq e => by exact e)); clear hy3; have HC3_3 := hid (Only.refl (fun k => k ≤ Y) w3); clear o4; clear HO2 HD2 HY2; obtain ⟨y0, y1, y2, y3, yz⟩ := boxN4 HY3.out
     go_upto_region 30 with (fail)
     clear y0 y1 y2 y3 yz; have hy4 := heap_set (o := 3) HY3.out (.slice ar3 lr3 cr3); have hy4 : (w3.setCell ⟨Y, 3, none⟩ (.slice ar3 lr3 cr3)).heap[Y]? = some (.cells #[.bool false, .string ⟨#[]⟩, .slice none 0 0, .slice ar3 lr3 cr3] 56 (0, 0)) := by simpa using hy4
     have os4 : Only (fun k => k = Y) w3 (w3.setCell ⟨Y, 3, none⟩ (.slice ar3 lr3 cr3)) := (Only.refl (fun k => k = Y) _).setCell (p := ⟨Y, 3, none⟩) (.inl rfl) _; obtain ⟨w4, hw4⟩ := eX (w3.setCell ⟨Y, 3, none⟩ (.slice ar3 lr3 cr3)); rw [hw4] at hy4 os4; rw [hw4]; clear hw4; have HY4 := hid hy4; have HD4 := hid (HD3.out.only os4 (fun k hk e => by omega)); have HJ4 := HJ3; have HC3_4 := hid (HC3_3.out.trans' os4 (fun q hq e => by have e : q = Y := e; show q ≤ Y; omega)); have HO4 := hid (HO3.out.trans' os4 (fun q hq e => by have e : q = Y := e; have := HWY.out; omega)); clear hy4 os4 HJ3; clear HO3 HD3 HY3 HC3_3; obtain ⟨hdn, hxs⟩ := HJ4.out.done; have o3 := HC3_4.out; have hvc : ∀ x q, total = .ok x q → CellsAt w4 (fun q => Y < q ∧ q < w4.heap.size) (opC x) [.bool false, .string ⟨#[]⟩, .slice none 0 0, .slice ar3 lr3 cr3] := fun x q e => by
      obtain ⟨⟨u, sb⟩, rfl, ⟨-, k9⟩⟩ := hxs x q e; exact CellsAt.lit rfl (CellsAt.lit rfl (CellsAt.cons (CellAt.nilRow _ _ _) (CellsAt.cons (CellAt.weaken (G' := fun q => Y < q ∧ q < w4.heap.size) (fun q hq h => ⟨h, hq⟩) _ _ (CellAt.only o3 (fun k hk e => by have hk : Y < k := hk; have e : k ≤ Y := e; omega) _ _ k9)) (CellsAt.nil _ _))))
     have hdz : Rf w4 b all total.unit := by rw [← hdn]; exact HD4.out
     obtain ⟨row, hrow, hrx⟩ := elem_row (P := total) (enc := opC) (ys := [.bool false, .string ⟨#[]⟩, .slice none 0 0, .slice ar3 lr3 cr3]) hvc (by intro u hu; simp at hu; rcases hu with rfl | rfl | rfl | rfl <;> rfl); have HDZ := hid hdz; have HROW := hid hrow; have HRX := hid hrx; clear hdn hxs hvc hdz hrow hrx HD4 HJ4 o3; obtain ⟨G, hG⟩ := eX (w4.heap.size); obtain ⟨wA, hwa⟩ := eX (w4.alloc (.cells #[.bool false, .string ⟨#[]⟩, .slice none 0 0, .slice ar3 lr3 cr3] 56)); have og : Only (fun _ => False) w4 wA := by rw [← hwa]; exact (Only.refl _ _).alloc _
     have hgg : wA.heap[G]? = some (.cells #[.bool false, .string ⟨#[]⟩, .slice none 0 0, .slice ar3 lr3 cr3] 56 (0, 0)) := by rw [← hwa, ← hG]; exact heap_new _ _
     have hgs : G + 1 = wA.heap.size := by rw [← hwa, World.size_alloc, hG]
     have hgw : wr.heap.size ≤ G := by have := HO4.out.size; omega
     have HOA := hid (HO4.out.trans' og (fun q _ e => e.elim)); have HW := hid (HDF.out.own.only HOA.out (fun k h1 h2 e => by have e : k = b := e; omega)); have HRA := hid (show CellsAt wA (fun q => (D + 1 ≤ q ∧ (Value.slice aK os.length cK).ownBlock ≠ some q ∧ q < wA.heap.size) ∧ (Value.slice aL fs.length cL).ownBlock ≠ some q) row [.bool false, .string ⟨#[]⟩, .slice none 0 0, .slice ar3 lr3 cr3] from CellsAt.weaken (fun q hq h => by have h1 : Y < q := h.1; have := HWY.out; have := HDL.out; exact ⟨⟨by omega, fun e => by have := (HFK.out q e).2; omega, hq⟩, fun e => by have := (HFL.out q e).2; omega⟩) _ _ (CellsAt.only og (fun _ _ h => h) _ _ HROW.out)); have HDA := hid (HDZ.out.still og); have HBn := hid ((HO4.out.block D HDL.out (by omega)).trans HDF.out.box); have HBA := hid ((HOA.out.block D HDL.out (by omega)).trans HDF.out.box); have HRS := hid ((HOA.out.block R (gE HDF.out.res).1 (by omega)).trans HDF.out.res); obtain ⟨xs, p1', p2'⟩ := HW.out.swap.l; have hys : ∀ j u, ([.bool false, .string ⟨#[]⟩, .slice none 0 0, .slice ar3 lr3 cr3] : List Value)[j]? = some u → wA.cell? ((⟨G, 0, none⟩ : Addr).add j) = some u := fun j u hu => by rw [addr_add]; exact range_of_block (cs := [.bool false, .string ⟨#[]⟩, .slice none 0 0, .slice ar3 lr3 cr3]) hgg j u hu
     have hone : ∀ u ∈ ([.bool false, .string ⟨#[]⟩, .slice none 0 0, .slice ar3 lr3 cr3] : List Value), u.oneCell' = true := by intro u hu; simp at hu; rcases hu with rfl | rfl | rfl | rfl <;> rfl
     have HYS := hid hys; have HONE := hid hone; have HP1 := hid p1'; have HP2 := hid p2'; have HG := hid hG; have HWA := hid hwa; have HGS := hid hgs; have HGW := hid hgw; clear hys hone p1' p2' hG hwa hgs hgg og hgw; obtain ⟨y0, y1, y2, y3, yz⟩ := boxN4 HY4.out; obtain ⟨c0, c1, cz⟩ := boxN2 HBn.out
     go_wp2_with ((rw [HG.out, HWA.out]; refine wpList_append_own2 (o := ⟨some 119, _, _, _, _, _⟩) rfl (.tmp 116) (.tmp 118) 23 56 (by rfl) Tryz.underlying23 infoOp rfl (by decide) (D + 1) (.slice aK os.length cK) os.length 1 1 xs [.bool false, .string ⟨#[]⟩, .slice none 0 0, .slice ar3 lr3 cr3] ⟨G, 0, none⟩ (by rfl) (by rfl) HP1.out (by rfl) HYS.out HONE.out (by have := HFEW.out; unfold maxLen; omega) (by have := HFEW.out; omega) (by have := HGS.out; have := HGW.out; have := HDL.out; omega) ?_; intro v' wZ q1 q2 q3; obtain ⟨aN, cN, eN, gL1, gL2, -⟩ := own_form q1; subst eN; clear c0 c1 cz y0 y1 y2 y3 yz; obtain ⟨c0, c1, cz⟩ := boxN2 ((q2.block D (gE HBA.out).1 (fun e => by have := (HFK.out D e).1; omega)).trans HBA.out)))
     have hF := HFK.out; have hrow2 := (OwnTwo.append HW.out.swap HP1.out HP2.out rfl HRA.out q1 q2 q3).swap; have hdd := HDA.out.only q2 (fun k hk h => by have := (hF k h).1; omega); have hbx := (q2.block D (gE HBA.out).1 (fun e => by have := (hF D e).1; omega)).trans HBA.out; have hrs := (q2.block R (gE HRS.out).1 (fun e => by have := (hF R e).1; omega)).trans HRS.out; have hoo : Only (fun _ => False) w wZ := (HDF.out.only.trans' HOA.out (fun q hq e => by have e : q = b := e; omega)).trans' q2 (fun q hq h => by have := (hF q h).1; omega); have oy : Only (fun k => k = D) wZ (wZ.setCell ⟨D, 0, none⟩ (.slice aN (os.length + 1) cN)) := (Only.refl (fun k => k = D) wZ).setCell (p := ⟨D, 0, none⟩) (.inl rfl) _; have hB6 := heap_set (o := 0) hbx (.slice aN (os.length + 1) cN); have hB6 : (wZ.setCell ⟨D, 0, none⟩ (.slice aN (os.length + 1) cN)).heap[D]? = some (.cells #[.slice aN (os.length + 1) cN, .slice aL fs.length cL] 26 (0, 0)) := by simpa using hB6
     have hd9 := hdd.only oy (fun k hk e => by have e : k = D := e; omega); have hpos := HDF.out.rd.few.2; obtain ⟨hfew, acc, hao, haf, htl⟩ := HDF.out.ok _ _ rfl; rw [doc_step HCL.out, defP_op acc HNF.out, HTOT.out] at htl; have hnew : DF w b D R all tot false (wZ.setCell ⟨D, 0, none⟩ (.slice aN (os.length + 1) cN)) total.unit (.slice aN (os.length + 1) cN) (.slice aL fs.length cL) (os ++ [row]) fs := by
      refine ⟨hd9, hB6, kB oy hrs (by omega), hrow2.only oy (fun k h1 h2 e => by have e : k = D := e; omega), hoo.trans' oy (fun q hq e => by have e : q = D := e; omega), fun u r e => ?_, fun a e h => ⟨rfl, ?_⟩⟩
      ·cases hq : total with
       | bad a e' => rw [hq] at e; cases e
       | ok x r2 =>
        rw [hq] at e htl
        injection e with _ e; subst e
        have hl := opdP_takes _ _ _ (HTOT.out.trans hq); exact ⟨by simp only [List.length_append, List.length_singleton]; omega, ⟨acc.ops ++ [x], acc.frags⟩, by rw [hao, HRX.out x _ hq, List.map_append]; rfl, haf, htl⟩
      ·cases hq : total with
       | bad a' e' => rw [hq] at h htl; injection h with h1 h2; subst h1; subst h2; exact htl
       | ok x r2 => rw [hq] at h; cases h
     have hmu : muF (wZ.setCell ⟨D, 0, none⟩ (.slice aN (os.length + 1) cN)) b all < muF wr b all := by
      rw [muF_ok HDF.out.rd]
      cases hq : total with
      | bad p q => rw [hq] at hd9; rw [muF_bad hd9]; omega
      | ok x r2 => rw [hq] at hd9; rw [muF_ok (u := ()) hd9]; have hl := opdP_takes _ _ _ (HTOT.out.trans hq); omega
     have HNEW := hid hnew; have HMU := hid hmu; clear hnew hmu htl hao haf hfew hoo hdd hd9 hB6 hbx hrs oy hrow2 q1 q2 q3 gL1 gL2 hF HRA HDA HBA HBn HRS HOA HW HO4 HY4 hpos
     go_wp2_with fail
     go_roundw
     case rel => first | exact ⟨false, rfl, hid ⟨_, _, _, _, _, HNEW.out⟩⟩ | ((repeat apply Exists.intro); refine ⟨?_, rfl⟩; exact ⟨false, rfl, hid ⟨_, _, _, _, _, HNEW.out⟩⟩)
     case measure => exact HMU.out
   ·
    go_wp2_with fail
    refine T.out.mono ?_
    rintro e wu ⟨rfl, ou⟩; have h2 := HDF.out.rd.still (HOT.out.trans ou); obtain ⟨g, off, cc, N, t, r', hr, i, bd, c0, c1, c2, c3, c4, fz, hi, hNc, hN, hcm, hgb, -⟩ := h2.next; have h3 := h2.step (isW_pos HBF.out) c1; have hO : Only (fun k => k = b) wr (wu.setCell ⟨b, 1, none⟩ (.int .i64 ((i : Int) + 1))) := ((HOT.out.trans ou).mono (T := fun k => k = b) (fun _ _ h => h.elim)).setCell (.inl rfl) _; obtain ⟨w0, hw0⟩ := eX (wu.setCell ⟨b, 1, none⟩ (.int .i64 ((i : Int) + 1))); rw [hw0] at h3 hO; obtain ⟨σ0, hs0⟩ : ∃ σ : PR Unit, PR.ok () rr.tail = σ := ⟨_, rfl⟩; rw [hs0] at h3; obtain ⟨total, htot⟩ := eX (fragP rr.tail); have hj := Jn.start σ0 fragP; rw [← hs0, show ((PR.ok () rr.tail : PR Unit).bind fun _ => fragP) = total from htot, hs0, fragP_fun] at hj; have HJ0 := hid hj; have HD0 := hid h3; have HO0 := hid hO; have HTOT := hid htot; have HW0 := hid hw0; clear h2 h3 hO ou hr hw0 hs0 htot hj T HOT
    go_upto_region 11 with (fail)
    rw [HW0.out]; clear c0 c1 c2 c3 c4 fz HW0; have J := hid (fWord_any b all σ0 [111, 110] w0 HD0.out); obtain ⟨bb1, hb1⟩ := eX (tst σ0 (isW [111, 110])); rw [hb1] at J; have HBT := hid hb1; clear hb1
    cases bb1
    ·
     go_wp2_with fail
     refine J.out.mono ?_
     rintro e w1 ⟨rfl, o4⟩; have HJ1 := hid (HJ0.out.no HBT.out); have HD1 := hid (HD0.out.still o4); clear HJ0 HBT J; have HO1 := hid (HO0.out.trans' o4 (fun q hq e => by exact e.elim)); clear o4; clear HO0 HD0; have HJu := HJ1.out; unfold fragQ wOn at HJu; clear HJ1; have HJ1 := hid HJu; clear HJu; have J := hid (fName_any b all σ0 w1 HD1.out)
     go_wp2_with fail
     refine J.out.mono ?_
     rintro e w2 ⟨v, rfl, ⟨s2, rfl⟩, hd, hv, o4⟩; have hv : ∀ x q, (σ0.bind fun _ => nameP) = .ok x q → s2 = x := fun x q e => strF_inj (hv x q e)
     obtain ⟨σ2, hσ⟩ := eX ((σ0.bind fun _ => nameP).unit); rw [hσ] at hd; have hj := Jn.call (fun x => s2 = x) HJ1.out hσ.symm hv; have HJ2 := hid hj; have HD2 := hid hd; clear hj hd hv hσ HJ1 J; have HO2 := hid (HO1.out.trans' o4 (fun q hq e => by exact e)); clear o4; clear HO1 HD1; obtain ⟨Y, hY⟩ := eX (w2.heap.size); have HWY := hid (show wr.heap.size ≤ Y by have := HO2.out.size; omega); have hbY : b < Y := by have := HD2.out.lt; omega
     obtain ⟨w3, hw3⟩ := eX (w2.alloc (.cells #[.string ⟨s2.toArray⟩, .string ⟨#[]⟩, .slice none 0 0] 76)); have hy3 : w3.heap[Y]? = some (.cells #[.string ⟨s2.toArray⟩, .string ⟨#[]⟩, .slice none 0 0] 76 (0, 0)) := by rw [← hw3, ← hY]; exact heap_new _ _
     have oa3 : Only (fun _ => False) w2 w3 := by rw [← hw3]; exact (Only.refl _ _).alloc _
     have HY3 := hid hy3; have HD3 := hid (HD2.out.still oa3); have HO3 := hid (HO2.out.trans' oa3 (fun q _ e => e.elim)); have HW3 := hid hw3; have HYY := hid hY; have HJ3 := HJ2; clear hy3 hw3 hY oa3 HD2 HO2 HJ2
     go_upto_region 14 with (fail)
     rw [HYY.out, HW3.out]; clear HYY HW3; have J := hid (fMust_any b all σ2 [111, 110] w3 HD3.out)
     go_wp2_with fail
     refine J.out.mono ?_
     rintro e w4 ⟨rfl, hd, o4⟩; have hv : ∀ x q, (σ2.bind fun _ => wantP [111, 110]) = .ok x q → True := fun _ _ _ => trivial
     obtain ⟨σ4, hσ⟩ := eX ((σ2.bind fun _ => wantP [111, 110]).unit); rw [hσ] at hd; have hj := Jn.call (fun _ => True) HJ3.out hσ.symm hv; have HJ4 := hid hj; have HD4 := hid hd; clear hj hd hv hσ HJ3 J; have hy4 := kB o4 HY3.out (by omega); have HY4 := hid hy4; have HO4 := hid (HO3.out.trans' o4 (fun q hq e => by exact e)); clear hy4; clear o4; clear HO3 HD3 HY3; have J := hid (fName_any b all σ4 w4 HD4.out)
     go_wp2_with fail
     refine J.out.mono ?_
     rintro e w5 ⟨v, rfl, ⟨s5, rfl⟩, hd, hv, o4⟩; have hv : ∀ x q, (σ4.bind fun _ => nameP) = .ok x q → s5 = x := fun x q e => strF_inj (hv x q e)
     obtain ⟨σ5, hσ⟩ := eX ((σ4.bind fun _ => nameP).unit); rw [hσ] at hd; have hj := Jn.call (fun x => s5 = x) HJ4.out hσ.symm hv; have HJ5 := hid hj; have HD5 := hid hd; clear hj hd hv hσ HJ4 J; have hy5 := kB o4 HY4.out (by omega); have HY5 := hid hy5; have HO5 := hid (HO4.out.trans' o4 (fun q hq e => by exact e)); clear hy5; clear o4; clear HO4 HD4 HY4; obtain ⟨y0, y1, y2, yz⟩ := boxN3 HY5.out
     go_upto_region 16 with (fail)
     clear y0 y1 y2 yz; have hy6 := heap_set (o := 1) HY5.out (.string ⟨s5.toArray⟩); have hy6 : (w5.setCell ⟨Y, 1, none⟩ (.string ⟨s5.toArray⟩)).heap[Y]? = some (.cells #[.string ⟨s2.toArray⟩, .string ⟨s5.toArray⟩, .slice none 0 0] 76 (0, 0)) := by simpa using hy6
     have os6 : Only (fun k => k = Y) w5 (w5.setCell ⟨Y, 1, none⟩ (.string ⟨s5.toArray⟩)) := (Only.refl (fun k => k = Y) _).setCell (p := ⟨Y, 1, none⟩) (.inl rfl) _; obtain ⟨w6, hw6⟩ := eX (w5.setCell ⟨Y, 1, none⟩ (.string ⟨s5.toArray⟩)); rw [hw6] at hy6 os6; rw [hw6]; clear hw6; have HY6 := hid hy6; have HD6 := hid (HD5.out.only os6 (fun k hk e => by omega)); have HJ6 := HJ5; have HO6 := hid (HO5.out.trans' os6 (fun q hq e => by have e : q = Y := e; have := HWY.out; omega)); clear hy6 os6 HJ5; clear HO5 HD5 HY5; have J := hid (fset_any 24 b all σ5 w6 HAD.out HD6.out)
     go_wp2_with fail
     refine J.out.mono ?_
     rintro e w7 ⟨v, rfl, ⟨ar7, lr7, cr7, rfl⟩, hd, hv, o4⟩; have hsy : Y < w6.heap.size := (gE HY6.out).1; have hv : ∀ x q, (σ5.bind fun _ => (setP 24)) = .ok x q → CellAt w7 (fun q => Y < q) (.row 7 (x.map selC)) (.slice ar7 lr7 cr7) := fun x q e => CellAt.weaken (fun q _ h => by have h : w6.heap.size ≤ q := h; show Y < q; omega) _ _ (hv x q e)
     obtain ⟨σ7, hσ⟩ := eX ((σ5.bind fun _ => (setP 24)).unit); rw [hσ] at hd; have hj := Jn.call (fun x => CellAt w7 (fun q => Y < q) (.row 7 (x.map selC)) (.slice ar7 lr7 cr7)) HJ6.out hσ.symm hv; have HJ7 := hid hj; have HD7 := hid hd; clear hj hd hv hσ HJ6 J hsy; have hy7 := kB o4 HY6.out (by omega); have HY7 := hid hy7; have HO7 := hid (HO6.out.trans' o4 (fun q hq e => by exact e)); clear hy7; have HC7_7 := hid (Only.refl (fun k => k ≤ Y) w7); clear o4; clear HO6 HD6 HY6; obtain ⟨y0, y1, y2, yz⟩ := boxN3 HY7.out
     go_upto_region 17 with (fail)
     clear y0 y1 y2 yz; have hy8 := heap_set (o := 2) HY7.out (.slice ar7 lr7 cr7); have hy8 : (w7.setCell ⟨Y, 2, none⟩ (.slice ar7 lr7 cr7)).heap[Y]? = some (.cells #[.string ⟨s2.toArray⟩, .string ⟨s5.toArray⟩, .slice ar7 lr7 cr7] 76 (0, 0)) := by simpa using hy8
     have os8 : Only (fun k => k = Y) w7 (w7.setCell ⟨Y, 2, none⟩ (.slice ar7 lr7 cr7)) := (Only.refl (fun k => k = Y) _).setCell (p := ⟨Y, 2, none⟩) (.inl rfl) _; obtain ⟨w8, hw8⟩ := eX (w7.setCell ⟨Y, 2, none⟩ (.slice ar7 lr7 cr7)); rw [hw8] at hy8 os8; rw [hw8]; clear hw8; have HY8 := hid hy8; have HD8 := hid (HD7.out.only os8 (fun k hk e => by omega)); have HJ8 := HJ7; have HC7_8 := hid (HC7_7.out.trans' os8 (fun q hq e => by have e : q = Y := e; show q ≤ Y; omega)); have HO8 := hid (HO7.out.trans' os8 (fun q hq e => by have e : q = Y := e; have := HWY.out; omega)); clear hy8 os8 HJ7; clear HO7 HD7 HY7 HC7_7; obtain ⟨hdn, hxs⟩ := HJ8.out.done; have o7 := HC7_8.out; have hvc : ∀ x q, total = .ok x q → CellsAt w8 (fun q => Y < q ∧ q < w8.heap.size) (frC x) [.string ⟨s2.toArray⟩, .string ⟨s5.toArray⟩, .slice ar7 lr7 cr7] := fun x q e => by
      obtain ⟨⟨⟨⟨⟨u, n1⟩, u2⟩, n2⟩, sb⟩, rfl, ⟨⟨⟨⟨-, k1⟩, -⟩, k2⟩, k3⟩⟩ := hxs x q e; subst k1; subst k2; exact CellsAt.lit rfl (CellsAt.lit rfl (CellsAt.cons (CellAt.weaken (G' := fun q => Y < q ∧ q < w8.heap.size) (fun q hq h => ⟨h, hq⟩) _ _ (CellAt.only o7 (fun k hk e => by have hk : Y < k := hk; have e : k ≤ Y := e; omega) _ _ k3)) (CellsAt.nil _ _)))
     have hdz : Rf w8 b all total.unit := by rw [← hdn]; exact HD8.out
     obtain ⟨row, hrow, hrx⟩ := elem_row (P := total) (enc := frC) (ys := [.string ⟨s2.toArray⟩, .string ⟨s5.toArray⟩, .slice ar7 lr7 cr7]) hvc (by intro u hu; simp at hu; rcases hu with rfl | rfl | rfl <;> rfl); have HDZ := hid hdz; have HROW := hid hrow; have HRX := hid hrx; clear hdn hxs hvc hdz hrow hrx HD8 HJ8 o7; obtain ⟨G, hG⟩ := eX (w8.heap.size); obtain ⟨wA, hwa⟩ := eX (w8.alloc (.cells #[.string ⟨s2.toArray⟩, .string ⟨s5.toArray⟩, .slice ar7 lr7 cr7] 76)); have og : Only (fun _ => False) w8 wA := by rw [← hwa]; exact (Only.refl _ _).alloc _
     have hgg : wA.heap[G]? = some (.cells #[.string ⟨s2.toArray⟩, .string ⟨s5.toArray⟩, .slice ar7 lr7 cr7] 76 (0, 0)) := by rw [← hwa, ← hG]; exact heap_new _ _
     have hgs : G + 1 = wA.heap.size := by rw [← hwa, World.size_alloc, hG]
     have hgw : wr.heap.size ≤ G := by have := HO8.out.size; omega
     have HOA := hid (HO8.out.trans' og (fun q _ e => e.elim)); have HW := hid (HDF.out.own.only HOA.out (fun k h1 h2 e => by have e : k = b := e; omega)); have HRA := hid (show CellsAt wA (fun q => (D + 1 ≤ q ∧ (Value.slice aL fs.length cL).ownBlock ≠ some q ∧ q < wA.heap.size) ∧ (Value.slice aK os.length cK).ownBlock ≠ some q) row [.string ⟨s2.toArray⟩, .string ⟨s5.toArray⟩, .slice ar7 lr7 cr7] from CellsAt.weaken (fun q hq h => by have h1 : Y < q := h.1; have := HWY.out; have := HDL.out; exact ⟨⟨by omega, fun e => by have := (HFL.out q e).2; omega, hq⟩, fun e => by have := (HFK.out q e).2; omega⟩) _ _ (CellsAt.only og (fun _ _ h => h) _ _ HROW.out)); have HDA := hid (HDZ.out.still og); have HBn := hid ((HO8.out.block D HDL.out (by omega)).trans HDF.out.box); have HBA := hid ((HOA.out.block D HDL.out (by omega)).trans HDF.out.box); have HRS := hid ((HOA.out.block R (gE HDF.out.res).1 (by omega)).trans HDF.out.res); obtain ⟨xs, p1', p2'⟩ := HW.out.l; have hys : ∀ j u, ([.string ⟨s2.toArray⟩, .string ⟨s5.toArray⟩, .slice ar7 lr7 cr7] : List Value)[j]? = some u → wA.cell? ((⟨G, 0, none⟩ : Addr).add j) = some u := fun j u hu => by rw [addr_add]; exact range_of_block (cs := [.string ⟨s2.toArray⟩, .string ⟨s5.toArray⟩, .slice ar7 lr7 cr7]) hgg j u hu
     have hone : ∀ u ∈ ([.string ⟨s2.toArray⟩, .string ⟨s5.toArray⟩, .slice ar7 lr7 cr7] : List Value), u.oneCell' = true := by intro u hu; simp at hu; rcases hu with rfl | rfl | rfl <;> rfl
     have HYS := hid hys; have HONE := hid hone; have HP1 := hid p1'; have HP2 := hid p2'; have HG := hid hG; have HWA := hid hwa; have HGS := hid hgs; have HGW := hid hgw; clear hys hone p1' p2' hG hwa hgs hgg og hgw; obtain ⟨y0, y1, y2, yz⟩ := boxN3 HY8.out; obtain ⟨c0, c1, cz⟩ := boxN2 HBn.out
     go_wp2_with ((rw [HG.out, HWA.out]; refine wpList_append_own2 (o := ⟨some 68, _, _, _, _, _⟩) rfl (.tmp 65) (.tmp 67) 24 76 (by rfl) Tryz.underlying24 infoFr rfl (by decide) (D + 1) (.slice aL fs.length cL) fs.length 1 1 xs [.string ⟨s2.toArray⟩, .string ⟨s5.toArray⟩, .slice ar7 lr7 cr7] ⟨G, 0, none⟩ (by rfl) (by rfl) HP1.out (by rfl) HYS.out HONE.out (by have := HFEW.out; unfold maxLen; omega) (by have := HFEW.out; omega) (by have := HGS.out; have := HGW.out; have := HDL.out; omega) ?_; intro v' wZ q1 q2 q3; obtain ⟨aN, cN, eN, gL1, gL2, -⟩ := own_form q1; subst eN; clear c0 c1 cz y0 y1 y2 yz; obtain ⟨c0, c1, cz⟩ := boxN2 ((q2.block D (gE HBA.out).1 (fun e => by have := (HFL.out D e).1; omega)).trans HBA.out)))
     have hF := HFL.out; have hrow2 := (OwnTwo.append HW.out HP1.out HP2.out rfl HRA.out q1 q2 q3); have hdd := HDA.out.only q2 (fun k hk h => by have := (hF k h).1; omega); have hbx := (q2.block D (gE HBA.out).1 (fun e => by have := (hF D e).1; omega)).trans HBA.out; have hrs := (q2.block R (gE HRS.out).1 (fun e => by have := (hF R e).1; omega)).trans HRS.out; have hoo : Only (fun _ => False) w wZ := (HDF.out.only.trans' HOA.out (fun q hq e => by have e : q = b := e; omega)).trans' q2 (fun q hq h => by have := (hF q h).1; omega); have oy : Only (fun k => k = D) wZ (wZ.setCell ⟨D, 1, none⟩ (.slice aN (fs.length + 1) cN)) := (Only.refl (fun k => k = D) wZ).setCell (p := ⟨D, 1, none⟩) (.inl rfl) _; have hB6 := heap_set (o := 1) hbx (.slice aN (fs.length + 1) cN); have hB6 : (wZ.setCell ⟨D, 1, none⟩ (.slice aN (fs.length + 1) cN)).heap[D]? = some (.cells #[.slice aK os.length cK, .slice aN (fs.length + 1) cN] 26 (0, 0)) := by simpa using hB6
     have hd9 := hdd.only oy (fun k hk e => by have e : k = D := e; omega); have hpos := HDF.out.rd.few.2; obtain ⟨hfew, acc, hao, haf, htl⟩ := HDF.out.ok _ _ rfl; rw [doc_step HCL.out, defP_frag acc HBF.out, HTOT.out] at htl; have hnew : DF w b D R all tot false (wZ.setCell ⟨D, 1, none⟩ (.slice aN (fs.length + 1) cN)) total.unit (.slice aK os.length cK) (.slice aN (fs.length + 1) cN) os (fs ++ [row]) := by
      refine ⟨hd9, hB6, kB oy hrs (by omega), hrow2.only oy (fun k h1 h2 e => by have e : k = D := e; omega), hoo.trans' oy (fun q hq e => by have e : q = D := e; omega), fun u r e => ?_, fun a e h => ⟨rfl, ?_⟩⟩
      ·cases hq : total with
       | bad a e' => rw [hq] at e; cases e
       | ok x r2 =>
        rw [hq] at e htl
        injection e with _ e; subst e
        have hl := fragP_takes _ _ _ (HTOT.out.trans hq); have hl2 : rr.tail.length ≤ rr.length := (by simp); exact ⟨by simp only [List.length_append, List.length_singleton]; omega, ⟨acc.ops, acc.frags ++ [x]⟩, hao, by rw [haf, HRX.out x _ hq, List.map_append]; rfl, htl⟩
      ·cases hq : total with
       | bad a' e' => rw [hq] at h htl; injection h with h1 h2; subst h1; subst h2; exact htl
       | ok x r2 => rw [hq] at h; cases h
     have hmu : muF (wZ.setCell ⟨D, 1, none⟩ (.slice aN (fs.length + 1) cN)) b all < muF wr b all := by
      rw [muF_ok HDF.out.rd]
      cases hq : total with
      | bad p q => rw [hq] at hd9; rw [muF_bad hd9]; omega
      | ok x r2 => rw [hq] at hd9; rw [muF_ok (u := ()) hd9]; have hl := fragP_takes _ _ _ (HTOT.out.trans hq); have hl2 : rr.tail.length ≤ rr.length := (by simp); omega
     have HNEW := hid hnew; have HMU := hid hmu; clear hnew hmu htl hao haf hfew hoo hdd hd9 hB6 hbx hrs oy hrow2 q1 q2 q3 gL1 gL2 hF HRA HDA HBA HBn HRS HOA HW HO8 HY8 hpos
     go_wp2_with fail
     go_roundw
     case rel => first | exact ⟨false, rfl, hid ⟨_, _, _, _, _, HNEW.out⟩⟩ | ((repeat apply Exists.intro); refine ⟨?_, rfl⟩; exact ⟨false, rfl, hid ⟨_, _, _, _, _, HNEW.out⟩⟩)
     case measure => exact HMU.out
    ·
     go_wp2_with fail
     refine J.out.mono ?_
     rintro e w1 ⟨rfl, o4⟩; have HJ1 := hid (HJ0.out.yes HBT.out); have HD1 := hid (HD0.out.still o4); clear HJ0 HBT J; have HO1 := hid (HO0.out.trans' o4 (fun q hq e => by exact e.elim)); clear o4; clear HO0 HD0; have J := hid (fFault_any b all σ0 4 (by decide) w1 HD1.out)
     go_wp2_with fail
     refine J.out.mono ?_
     rintro e w2 ⟨rfl, hd, o4⟩; obtain ⟨σ2, hσ⟩ := eX (flt σ0 4); have hj := Jn.fail (F := fun (_ : Unit) => fragQ) HJ1.out; rw [hσ] at hd hj; have HJ2 := hid hj; have HD2 := hid hd; clear hj hd hσ HJ1 J; have HO2 := hid (HO1.out.trans' o4 (fun q hq e => by exact e)); clear o4; clear HO1 HD1; have HJu := HJ2.out; unfold fragQ wOn at HJu; clear HJ2; have HJ2 := hid HJu; clear HJu; have J := hid (fName_any b all σ2 w2 HD2.out)
     go_wp2_with fail
     refine J.out.mono ?_
     rintro e w3 ⟨v, rfl, ⟨s3, rfl⟩, hd, hv, o4⟩; have hv : ∀ x q, (σ2.bind fun _ => nameP) = .ok x q → s3 = x := fun x q e => strF_inj (hv x q e)
     obtain ⟨σ3, hσ⟩ := eX ((σ2.bind fun _ => nameP).unit); rw [hσ] at hd; have hj := Jn.call (fun x => s3 = x) HJ2.out hσ.symm hv; have HJ3 := hid hj; have HD3 := hid hd; clear hj hd hv hσ HJ2 J; have HO3 := hid (HO2.out.trans' o4 (fun q hq e => by exact e)); clear o4; clear HO2 HD2; obtain ⟨Y, hY⟩ := eX (w3.heap.size); have HWY := hid (show wr.heap.size ≤ Y by have := HO3.out.size; omega); have hbY : b < Y := by have := HD3.out.lt; omega
     obtain ⟨w4, hw4⟩ := eX (w3.alloc (.cells #[.string ⟨s3.toArray⟩, .string ⟨#[]⟩, .slice none 0 0] 76)); have hy4 : w4.heap[Y]? = some (.cells #[.string ⟨s3.toArray⟩, .string ⟨#[]⟩, .slice none 0 0] 76 (0, 0)) := by rw [← hw4, ← hY]; exact heap_new _ _
     have oa4 : Only (fun _ => False) w3 w4 := by rw [← hw4]; exact (Only.refl _ _).alloc _
     have HY4 := hid hy4; have HD4 := hid (HD3.out.still oa4); have HO4 := hid (HO3.out.trans' oa4 (fun q _ e => e.elim)); have HW4 := hid hw4; have HYY := hid hY; have HJ4 := HJ3; clear hy4 hw4 hY oa4 HD3 HO3 HJ3
     go_upto_region 14 with (fail)
     rw [HYY.out, HW4.out]; clear HYY HW4; have J := hid (fMust_any b all σ3 [111, 110] w4 HD4.out)
     go_wp2_with fail
     refine J.out.mono ?_
     rintro e w5 ⟨rfl, hd, o4⟩; have hv : ∀ x q, (σ3.bind fun _ => wantP [111, 110]) = .ok x q → True := fun _ _ _ => trivial
     obtain ⟨σ5, hσ⟩ := eX ((σ3.bind fun _ => wantP [111, 110]).unit); rw [hσ] at hd; have hj := Jn.call (fun _ => True) HJ4.out hσ.symm hv; have HJ5 := hid hj; have HD5 := hid hd; clear hj hd hv hσ HJ4 J; have hy5 := kB o4 HY4.out (by omega); have HY5 := hid hy5; have HO5 := hid (HO4.out.trans' o4 (fun q hq e => by exact e)); clear hy5; clear o4; clear HO4 HD4 HY4; have J := hid (fName_any b all σ5 w5 HD5.out)
     go_wp2_with fail
     refine J.out.mono ?_
     rintro e w6 ⟨v, rfl, ⟨s6, rfl⟩, hd, hv, o4⟩; have hv : ∀ x q, (σ5.bind fun _ => nameP) = .ok x q → s6 = x := fun x q e => strF_inj (hv x q e)
     obtain ⟨σ6, hσ⟩ := eX ((σ5.bind fun _ => nameP).unit); rw [hσ] at hd; have hj := Jn.call (fun x => s6 = x) HJ5.out hσ.symm hv; have HJ6 := hid hj; have HD6 := hid hd; clear hj hd hv hσ HJ5 J; have hy6 := kB o4 HY5.out (by omega); have HY6 := hid hy6; have HO6 := hid (HO5.out.trans' o4 (fun q hq e => by exact e)); clear hy6; clear o4; clear HO5 HD5 HY5; obtain ⟨y0, y1, y2, yz⟩ := boxN3 HY6.out
     go_upto_region 16 with (fail)
     clear y0 y1 y2 yz; have hy7 := heap_set (o := 1) HY6.out (.string ⟨s6.toArray⟩); have hy7 : (w6.setCell ⟨Y, 1, none⟩ (.string ⟨s6.toArray⟩)).heap[Y]? = some (.cells #[.string ⟨s3.toArray⟩, .string ⟨s6.toArray⟩, .slice none 0 0] 76 (0, 0)) := by simpa using hy7
     have os7 : Only (fun k => k = Y) w6 (w6.setCell ⟨Y, 1, none⟩ (.string ⟨s6.toArray⟩)) := (Only.refl (fun k => k = Y) _).setCell (p := ⟨Y, 1, none⟩) (.inl rfl) _; obtain ⟨w7, hw7⟩ := eX (w6.setCell ⟨Y, 1, none⟩ (.string ⟨s6.toArray⟩)); rw [hw7] at hy7 os7; rw [hw7]; clear hw7; have HY7 := hid hy7; have HD7 := hid (HD6.out.only os7 (fun k hk e => by omega)); have HJ7 := HJ6; have HO7 := hid (HO6.out.trans' os7 (fun q hq e => by have e : q = Y := e; have := HWY.out; omega)); clear hy7 os7 HJ6; clear HO6 HD6 HY6; have J := hid (fset_any 24 b all σ6 w7 HAD.out HD7.out)
     go_wp2_with fail
     refine J.out.mono ?_
     rintro e w8 ⟨v, rfl, ⟨ar8, lr8, cr8, rfl⟩, hd, hv, o4⟩; have hsy : Y < w7.heap.size := (gE HY7.out).1; have hv : ∀ x q, (σ6.bind fun _ => (setP 24)) = .ok x q → CellAt w8 (fun q => Y < q) (.row 7 (x.map selC)) (.slice ar8 lr8 cr8) := fun x q e => CellAt.weaken (fun q _ h => by have h : w7.heap.size ≤ q := h; show Y < q; omega) _ _ (hv x q e)
     obtain ⟨σ8, hσ⟩ := eX ((σ6.bind fun _ => (setP 24)).unit); rw [hσ] at hd; have hj := Jn.call (fun x => CellAt w8 (fun q => Y < q) (.row 7 (x.map selC)) (.slice ar8 lr8 cr8)) HJ7.out hσ.symm hv; have HJ8 := hid hj; have HD8 := hid hd; clear hj hd hv hσ HJ7 J hsy; have hy8 := kB o4 HY7.out (by omega); have HY8 := hid hy8; have HO8 := hid (HO7.out.trans' o4 (fun q hq e => by exact e)); clear hy8; have HC8_8 := hid (Only.refl (fun k => k ≤ Y) w8); clear o4; clear HO7 HD7 HY7; obtain ⟨y0, y1, y2, yz⟩ := boxN3 HY8.out
     go_upto_region 17 with (fail)
     clear y0 y1 y2 yz; have hy9 := heap_set (o := 2) HY8.out (.slice ar8 lr8 cr8); have hy9 : (w8.setCell ⟨Y, 2, none⟩ (.slice ar8 lr8 cr8)).heap[Y]? = some (.cells #[.string ⟨s3.toArray⟩, .string ⟨s6.toArray⟩, .slice ar8 lr8 cr8] 76 (0, 0)) := by simpa using hy9
     have os9 : Only (fun k => k = Y) w8 (w8.setCell ⟨Y, 2, none⟩ (.slice ar8 lr8 cr8)) := (Only.refl (fun k => k = Y) _).setCell (p := ⟨Y, 2, none⟩) (.inl rfl) _; obtain ⟨w9, hw9⟩ := eX (w8.setCell ⟨Y, 2, none⟩ (.slice ar8 lr8 cr8)); rw [hw9] at hy9 os9; rw [hw9]; clear hw9; have HY9 := hid hy9; have HD9 := hid (HD8.out.only os9 (fun k hk e => by omega)); have HJ9 := HJ8; have HC8_9 := hid (HC8_8.out.trans' os9 (fun q hq e => by have e : q = Y := e; show q ≤ Y; omega)); have HO9 := hid (HO8.out.trans' os9 (fun q hq e => by have e : q = Y := e; have := HWY.out; omega)); clear hy9 os9 HJ8; clear HO8 HD8 HY8 HC8_8; obtain ⟨hdn, hxs⟩ := HJ9.out.done; have o8 := HC8_9.out; have hvc : ∀ x q, total = .ok x q → CellsAt w9 (fun q => Y < q ∧ q < w9.heap.size) (frC x) [.string ⟨s3.toArray⟩, .string ⟨s6.toArray⟩, .slice ar8 lr8 cr8] := fun x q e => by
      obtain ⟨⟨⟨⟨⟨u, n1⟩, u2⟩, n2⟩, sb⟩, rfl, ⟨⟨⟨⟨-, k1⟩, -⟩, k2⟩, k3⟩⟩ := hxs x q e; subst k1; subst k2; exact CellsAt.lit rfl (CellsAt.lit rfl (CellsAt.cons (CellAt.weaken (G' := fun q => Y < q ∧ q < w9.heap.size) (fun q hq h => ⟨h, hq⟩) _ _ (CellAt.only o8 (fun k hk e => by have hk : Y < k := hk; have e : k ≤ Y := e; omega) _ _ k3)) (CellsAt.nil _ _)))
     have hdz : Rf w9 b all total.unit := by rw [← hdn]; exact HD9.out
     obtain ⟨row, hrow, hrx⟩ := elem_row (P := total) (enc := frC) (ys := [.string ⟨s3.toArray⟩, .string ⟨s6.toArray⟩, .slice ar8 lr8 cr8]) hvc (by intro u hu; simp at hu; rcases hu with rfl | rfl | rfl <;> rfl); have HDZ := hid hdz; have HROW := hid hrow; have HRX := hid hrx; clear hdn hxs hvc hdz hrow hrx HD9 HJ9 o8; obtain ⟨G, hG⟩ := eX (w9.heap.size); obtain ⟨wA, hwa⟩ := eX (w9.alloc (.cells #[.string ⟨s3.toArray⟩, .string ⟨s6.toArray⟩, .slice ar8 lr8 cr8] 76)); have og : Only (fun _ => False) w9 wA := by rw [← hwa]; exact (Only.refl _ _).alloc _
     have hgg : wA.heap[G]? = some (.cells #[.string ⟨s3.toArray⟩, .string ⟨s6.toArray⟩, .slice ar8 lr8 cr8] 76 (0, 0)) := by rw [← hwa, ← hG]; exact heap_new _ _
     have hgs : G + 1 = wA.heap.size := by rw [← hwa, World.size_alloc, hG]
     have hgw : wr.heap.size ≤ G := by have := HO9.out.size; omega
     have HOA := hid (HO9.out.trans' og (fun q _ e => e.elim)); have HW := hid (HDF.out.own.only HOA.out (fun k h1 h2 e => by have e : k = b := e; omega)); have HRA := hid (show CellsAt wA (fun q => (D + 1 ≤ q ∧ (Value.slice aL fs.length cL).ownBlock ≠ some q ∧ q < wA.heap.size) ∧ (Value.slice aK os.length cK).ownBlock ≠ some q) row [.string ⟨s3.toArray⟩, .string ⟨s6.toArray⟩, .slice ar8 lr8 cr8] from CellsAt.weaken (fun q hq h => by have h1 : Y < q := h.1; have := HWY.out; have := HDL.out; exact ⟨⟨by omega, fun e => by have := (HFL.out q e).2; omega, hq⟩, fun e => by have := (HFK.out q e).2; omega⟩) _ _ (CellsAt.only og (fun _ _ h => h) _ _ HROW.out)); have HDA := hid (HDZ.out.still og); have HBn := hid ((HO9.out.block D HDL.out (by omega)).trans HDF.out.box); have HBA := hid ((HOA.out.block D HDL.out (by omega)).trans HDF.out.box); have HRS := hid ((HOA.out.block R (gE HDF.out.res).1 (by omega)).trans HDF.out.res); obtain ⟨xs, p1', p2'⟩ := HW.out.l; have hys : ∀ j u, ([.string ⟨s3.toArray⟩, .string ⟨s6.toArray⟩, .slice ar8 lr8 cr8] : List Value)[j]? = some u → wA.cell? ((⟨G, 0, none⟩ : Addr).add j) = some u := fun j u hu => by rw [addr_add]; exact range_of_block (cs := [.string ⟨s3.toArray⟩, .string ⟨s6.toArray⟩, .slice ar8 lr8 cr8]) hgg j u hu
     have hone : ∀ u ∈ ([.string ⟨s3.toArray⟩, .string ⟨s6.toArray⟩, .slice ar8 lr8 cr8] : List Value), u.oneCell' = true := by intro u hu; simp at hu; rcases hu with rfl | rfl | rfl <;> rfl
     have HYS := hid hys; have HONE := hid hone; have HP1 := hid p1'; have HP2 := hid p2'; have HG := hid hG; have HWA := hid hwa; have HGS := hid hgs; have HGW := hid hgw; clear hys hone p1' p2' hG hwa hgs hgg og hgw; obtain ⟨y0, y1, y2, yz⟩ := boxN3 HY9.out; obtain ⟨c0, c1, cz⟩ := boxN2 HBn.out
     go_wp2_with ((rw [HG.out, HWA.out]; refine wpList_append_own2 (o := ⟨some 68, _, _, _, _, _⟩) rfl (.tmp 65) (.tmp 67) 24 76 (by rfl) Tryz.underlying24 infoFr rfl (by decide) (D + 1) (.slice aL fs.length cL) fs.length 1 1 xs [.string ⟨s3.toArray⟩, .string ⟨s6.toArray⟩, .slice ar8 lr8 cr8] ⟨G, 0, none⟩ (by rfl) (by rfl) HP1.out (by rfl) HYS.out HONE.out (by have := HFEW.out; unfold maxLen; omega) (by have := HFEW.out; omega) (by have := HGS.out; have := HGW.out; have := HDL.out; omega) ?_; intro v' wZ q1 q2 q3; obtain ⟨aN, cN, eN, gL1, gL2, -⟩ := own_form q1; subst eN; clear c0 c1 cz y0 y1 y2 yz; obtain ⟨c0, c1, cz⟩ := boxN2 ((q2.block D (gE HBA.out).1 (fun e => by have := (HFL.out D e).1; omega)).trans HBA.out)))
     have hF := HFL.out; have hrow2 := (OwnTwo.append HW.out HP1.out HP2.out rfl HRA.out q1 q2 q3); have hdd := HDA.out.only q2 (fun k hk h => by have := (hF k h).1; omega); have hbx := (q2.block D (gE HBA.out).1 (fun e => by have := (hF D e).1; omega)).trans HBA.out; have hrs := (q2.block R (gE HRS.out).1 (fun e => by have := (hF R e).1; omega)).trans HRS.out; have hoo : Only (fun _ => False) w wZ := (HDF.out.only.trans' HOA.out (fun q hq e => by have e : q = b := e; omega)).trans' q2 (fun q hq h => by have := (hF q h).1; omega); have oy : Only (fun k => k = D) wZ (wZ.setCell ⟨D, 1, none⟩ (.slice aN (fs.length + 1) cN)) := (Only.refl (fun k => k = D) wZ).setCell (p := ⟨D, 1, none⟩) (.inl rfl) _; have hB6 := heap_set (o := 1) hbx (.slice aN (fs.length + 1) cN); have hB6 : (wZ.setCell ⟨D, 1, none⟩ (.slice aN (fs.length + 1) cN)).heap[D]? = some (.cells #[.slice aK os.length cK, .slice aN (fs.length + 1) cN] 26 (0, 0)) := by simpa using hB6
     have hd9 := hdd.only oy (fun k hk e => by have e : k = D := e; omega); have hpos := HDF.out.rd.few.2; obtain ⟨hfew, acc, hao, haf, htl⟩ := HDF.out.ok _ _ rfl; rw [doc_step HCL.out, defP_frag acc HBF.out, HTOT.out] at htl; have hnew : DF w b D R all tot false (wZ.setCell ⟨D, 1, none⟩ (.slice aN (fs.length + 1) cN)) total.unit (.slice aK os.length cK) (.slice aN (fs.length + 1) cN) os (fs ++ [row]) := by
      refine ⟨hd9, hB6, kB oy hrs (by omega), hrow2.only oy (fun k h1 h2 e => by have e : k = D := e; omega), hoo.trans' oy (fun q hq e => by have e : q = D := e; omega), fun u r e => ?_, fun a e h => ⟨rfl, ?_⟩⟩
      ·cases hq : total with
       | bad a e' => rw [hq] at e; cases e
       | ok x r2 =>
        rw [hq] at e htl
        injection e with _ e; subst e
        have hl := fragP_takes _ _ _ (HTOT.out.trans hq); have hl2 : rr.tail.length ≤ rr.length := (by simp); exact ⟨by simp only [List.length_append, List.length_singleton]; omega, ⟨acc.ops, acc.frags ++ [x]⟩, hao, by rw [haf, HRX.out x _ hq, List.map_append]; rfl, htl⟩
      ·cases hq : total with
       | bad a' e' => rw [hq] at h htl; injection h with h1 h2; subst h1; subst h2; exact htl
       | ok x r2 => rw [hq] at h; cases h
     have hmu : muF (wZ.setCell ⟨D, 1, none⟩ (.slice aN (fs.length + 1) cN)) b all < muF wr b all := by
      rw [muF_ok HDF.out.rd]
      cases hq : total with
      | bad p q => rw [hq] at hd9; rw [muF_bad hd9]; omega
      | ok x r2 => rw [hq] at hd9; rw [muF_ok (u := ()) hd9]; have hl := fragP_takes _ _ _ (HTOT.out.trans hq); have hl2 : rr.tail.length ≤ rr.length := (by simp); omega
     have HNEW := hid hnew; have HMU := hid hmu; clear hnew hmu htl hao haf hfew hoo hdd hd9 hB6 hbx hrs oy hrow2 q1 q2 q3 gL1 gL2 hF HRA HDA HBA HBn HRS HOA HW HO9 HY9 hpos
     go_wp2_with fail
     go_roundw
     case rel => first | exact ⟨false, rfl, hid ⟨_, _, _, _, _, HNEW.out⟩⟩ | ((repeat apply Exists.intro); refine ⟨?_, rfl⟩; exact ⟨false, rfl, hid ⟨_, _, _, _, _, HNEW.out⟩⟩)
     case measure => exact HMU.out
end Go.Proofs.YtnkpoddbbdmipaaGreatDoor
