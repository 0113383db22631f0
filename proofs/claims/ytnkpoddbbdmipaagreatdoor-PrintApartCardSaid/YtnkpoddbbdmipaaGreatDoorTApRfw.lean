/- . -/
import Derived.Test.YtnkpoddbbdmipaaGreatDoorTApRfl
import Derived.Test.YtnkpoddbbdmipaaGreatDoorTApCtw
namespace Go.Proofs.YtnkpoddbbdmipaaGreatDoor
open Go Go.RowKit
open Go.Lib (hid)
set_option linter.unusedVariables false
set_option linter.unusedSimpArgs false
theorem infoValF : (Tryz.prog.info? 35).map (fun i => (i.zero, i.size, i.bytes)) = some (some (.agg #[.int .u8 0, .int .i64 0, .string ByteArray.empty, .slice none 0 0, .slice none 0 0]), 5, 80) := by kernel_rfl
theorem infoStrF : (Tryz.prog.info? 9).map (fun i => (i.zero, i.size, i.bytes)) = some (some (.string ByteArray.empty), 1, 16) := by kernel_rfl
set_option maxRecDepth 100000 in
set_option maxHeartbeats 8000000 in
theorem fValue_stop (b : Nat) (all : RL) (hdp : all.dp ≤ 1000) (σ0 : PR Unit) (a c : Nat) (fx : Bool) (w : World) (hb : opn all.dp σ0 = .bad a c) (h : Rf w b all σ0) :
  Calls Tryz.prog 73 #[.pointer (some ⟨b, 0, none⟩), .bool fx] w fun e w' => e = .returned (.agg #[.int .u8 0, .int .i64 0, .string ⟨#[]⟩, .slice none 0 0, .slice none 0 0]) ∧ Rf w' b all (.bad a c) ∧ Only (fun k => k = b) w w' := by
 have hbl := h.lt; obtain ⟨B, hB⟩ := eX (w.heap.size); obtain ⟨w0, hw0⟩ := eX (w.alloc (.cells #[.int .u8 0, .int .i64 0, .string ⟨#[]⟩, .slice none 0 0, .slice none 0 0] 35)); obtain ⟨w1, hw1⟩ := eX (w0.alloc (.cells #[.int .u8 0, .int .i64 0, .string ⟨#[]⟩, .slice none 0 0, .slice none 0 0] 35)); obtain ⟨Y, hY⟩ := eX (w0.heap.size); have hs0 : w0.heap.size = B + 1 := by rw [← hw0, World.size_alloc, hB]
 have hr0 : w0.heap[B]? = some (.cells #[.int .u8 0, .int .i64 0, .string ⟨#[]⟩, .slice none 0 0, .slice none 0 0] 35 (0, 0)) := by rw [← hw0, ← hB]; exact heap_new _ _
 have hr1 : w1.heap[B]? = some (.cells #[.int .u8 0, .int .i64 0, .string ⟨#[]⟩, .slice none 0 0, .slice none 0 0] 35 (0, 0)) := by rw [← hw1]; exact heap_old hr0 _
 have hy1 : w1.heap[Y]? = some (.cells #[.int .u8 0, .int .i64 0, .string ⟨#[]⟩, .slice none 0 0, .slice none 0 0] 35 (0, 0)) := by rw [← hw1, ← hY]; exact heap_new _ _
 have o1 : Only (fun _ => False) w w1 := by rw [← hw1, ← hw0]; exact ((Only.refl _ w).alloc _).alloc _
 have J := hid (fOpen_any b all hdp σ0 w1 (h.still o1)); rw [hb] at J; have hbB : b < B := by omega
 have hBY : B < Y := by omega
 have HB := hid hB; have HW0 := hid hw0; have HW1 := hid hw1; have HY := hid hY; have HR1 := hid hr1; have HY1 := hid hy1; have O1 := hid o1; clear hB hw0 hw1 hY hs0 hr0 hr1 hy1 o1 hb h hbl
 go_enter Tryz.func73, Tryz.ntmps73
 go_upto_region 1 with (fail)
 rw [HB.out, HW0.out]
 go_upto_region 2 with (fail)
 rw [HY.out, HW1.out]; clear HW0 HW1
 go_wp2_with fail
 refine J.out.mono ?_
 rintro e w2 ⟨rfl, hd2, o2⟩; have hr2 := kB o2 HR1.out (by omega); have hy2 := kB o2 HY1.out (by omega); obtain ⟨dv, kd2, kfz, -⟩ := Rf.dcell hd2; obtain ⟨xd, hxd⟩ := eX (IntKind.i64.wrap (dv - 1)); have hd3 := Rf.up hd2 hdp kd2; rw [hxd] at hd3; have o3 : Only (fun k => k = b) w2 (w2.setCell ⟨b, 2, none⟩ (.int .i64 xd)) := (Only.refl (fun k => k = b) w2).setCell (.inl rfl) _; have hO : Only (fun k => k = b) w (w2.setCell ⟨b, 2, none⟩ (.int .i64 xd)) := ((O1.out.mono (T := fun k => k = b) (fun _ _ h => h.elim)).trans o2).trans o3; obtain ⟨w3, hw3⟩ := eX (w2.setCell ⟨b, 2, none⟩ (.int .i64 xd)); rw [hw3] at hd3 o3 hO; have hr3 := kB o3 hr2 (by omega); have hy3 := kB o3 hy2 (by omega); have HD3 := hid hd3; have HO := hid hO; have HW3 := hid hw3; have HR3 := hid hr3; have HY3 := hid hy3; have HWB := hid (show w.heap.size ≤ B by have := HB.out; omega); clear hd3 hO hw3 hr3 hy3 o3 hr2 hy2 o2 hd2 HB HY HR1 HY1 O1 J
 go_upto_region 5 with (fail)
 rw [HW3.out]; clear hxd HW3 kd2 kfz; obtain ⟨y0, y1, y2, y3, y4, yz⟩ := boxN5 HY3.out
 go_wp2_with ((refine wpList_store_box (o := ⟨none, _, _, _, _, _⟩) rfl 35 (.tmp 4) (.tmp 18) (by rfl) B [.int .u8 0, .int .i64 0, .string ⟨#[]⟩, .slice none 0 0, .slice none 0 0] [.int .u8 0, .int .i64 0, .string ⟨#[]⟩, .slice none 0 0, .slice none 0 0] (by rfl) (by rfl) HR3.out (by rfl) (by kernel_rfl) (by intro u hu; simp at hu; rcases hu with rfl | rfl | rfl | rfl | rfl <;> rfl) ?_; intro w9 k1 k2))
 clear y0 y1 y2 y3 y4 yz; obtain ⟨y0, y1, y2, y3, y4, -⟩ := boxN5 k1; exact bodyPost_ret (v := .agg #[.int .u8 0, .int .i64 0, .string ⟨#[]⟩, .slice none 0 0, .slice none 0 0]) (by simp [results, Tryz.results73, go_sem, y0, y1, y2, y3, y4]) rfl ⟨rfl, HD3.out.only k2 (fun k hk e => by have e : k = B := e; omega), HO.out.trans' k2 (fun q hq e => by have e : q = B := e; have := HWB.out; omega)⟩
theorem pair_joint (f : List Tok → PR VT) (rr : List Tok) : ((((nameP rr).unit.bind fun _ => wantP [58]).unit).bind fun _ => f).unit = (pairP f rr).unit ∧ ∀ x q, pairP f rr = .ok x q → (∃ q1, nameP rr = .ok x.1 q1) ∧ ((((nameP rr).unit.bind fun _ => wantP [58]).unit).bind fun _ => f) = .ok x.2 q := by
 unfold pairP
 cases nameP rr with
 | bad a e => exact ⟨rfl, fun x q h => by cases h⟩
 | ok s r1 =>
  show (((wantP [58] r1).unit).bind fun _ => f).unit = ((wantP [58] r1).bind fun _ r2 => (f r2).bind fun v r3 => PR.ok (s, v) r3).unit ∧ ∀ x q, ((wantP [58] r1).bind fun _ r2 => (f r2).bind fun v r3 => PR.ok (s, v) r3) = .ok x q → (∃ q1, PR.ok s r1 = .ok x.1 q1) ∧ (((wantP [58] r1).unit).bind fun _ => f) = .ok x.2 q
  cases wantP [58] r1 with
  | bad a e => exact ⟨rfl, fun x q h => by cases h⟩
  | ok u r2 =>
   show (f r2).unit = ((f r2).bind fun v r3 => PR.ok (s, v) r3).unit ∧ ∀ x q, ((f r2).bind fun v r3 => PR.ok (s, v) r3) = .ok x q → (∃ q1, PR.ok s r1 = .ok x.1 q1) ∧ f r2 = .ok x.2 q
   cases f r2 with
   | bad a e => exact ⟨rfl, fun x q h => by cases h⟩
   | ok v r3 =>
    refine ⟨rfl, fun x q h => ?_⟩
    have h : PR.ok (s, v) r3 = .ok x q := h
    injection h with h1 h2; subst h1; subst h2
    exact ⟨⟨r1, rfl⟩, rfl⟩
def LF (w : World) (Y B b : Nat) (all : RL) (f : List Tok → PR VT) (total : PR (List VT)) (wr : World) : Prop :=
 ∃ (σ : PR Unit) (rs : List (List Cell)) (vL : Value), wr.heap[Y]? = some (.cells #[.int .u8 5, .int .i64 0, .string ⟨#[]⟩, .slice none 0 0, vL] 35 (0, 0)) ∧ OwnRow wr (Y + 1) 35 5 vL rs ∧ Rf wr b all σ ∧
  wr.heap[B]? = some (.cells #[.int .u8 0, .int .i64 0, .string ⟨#[]⟩, .slice none 0 0, .slice none 0 0] 35 (0, 0)) ∧ Only (fun k => k = b) w wr ∧ LS f [93] total false rs.length (fun acc => rs = acc.map valC) σ
def OF (w : World) (Y B b : Nat) (all : RL) (f : List Tok → PR VT) (total : PR (List (List UInt8 × VT))) (wr : World) : Prop :=
 ∃ (σ : PR Unit) (ks rs : List (List Cell)) (vK vL : Value), wr.heap[Y]? = some (.cells #[.int .u8 6, .int .i64 0, .string ⟨#[]⟩, vK, vL] 35 (0, 0)) ∧ OwnTwo wr (Y + 1) 9 35 1 5 vK vL ks rs ∧ ks.length = rs.length ∧ Rf wr b all σ ∧
  wr.heap[B]? = some (.cells #[.int .u8 0, .int .i64 0, .string ⟨#[]⟩, .slice none 0 0, .slice none 0 0] 35 (0, 0)) ∧ Only (fun k => k = b) w wr ∧ LS (pairP f) [125] total false rs.length (fun acc => ks = acc.map (fun p => [strC p.1]) ∧ rs = acc.map (fun p => valC p.2)) σ
set_option maxRecDepth 100000 in
set_option maxHeartbeats 80000000 in
theorem fvalue_any (n : Nat) (fx : Bool) (b : Nat) (all : RL) (hdp : all.dp + n = 24) (IH0 : ∀ (σ : PR Unit) (w : World), Rf w b all σ → Calls Tryz.prog 73 #[.pointer (some ⟨b, 0, none⟩), .bool fx] w (FAns w b all σ (fun w' x v => aggP w.heap.size valC w' x v) valF (valueP fx n))) (r : List Tok) (w : World) (h : Rf w b all (.ok () r)) :
  Calls Tryz.prog 95 #[.pointer (some ⟨b, 0, none⟩), .bool fx] w (FAns w b all (.ok () r) (fun w' x v => aggP w.heap.size valC w' x v) valF (valueB fx (valueP fx n))) := by
 have hbl := h.lt; obtain ⟨B, hB⟩ := eX (w.heap.size); have hbB : b < B := by omega
 have IH := hid IH0; clear IH0; obtain ⟨f, hf⟩ := eX (valueP fx n); have htk : Takes f := by rw [← hf]; exact valueP_takes fx n
 rw [hf] at IH ⊢; have HTK := hid htk; clear htk hf; obtain ⟨g, off, cc, N, t, r', rfl, i, bd, d0, d1, d2, d3, d4, dz, hi, hNc, hN, hcm, hgb, a1, a2, a3, a4⟩ := h.next; have hiN : (i : Int) < (N : Int) := by omega
 obtain ⟨total, htot⟩ := eX (valueB fx f (t :: r')); have HP : ∀ w' v σ', Rf w' b all σ' → valF v → σ' = total.unit → (∀ x q, total = .ok x q → aggP B valC w' x v) → Only (fun k => k = b) w w' → FAns w b all (.ok () (t :: r')) (fun w' x v => aggP w.heap.size valC w' x v) valF (valueB fx f) (.returned v) w' := fun w' v σ' q1 q2 q3 q4 q5 =>
  ⟨v, rfl, q2, by rw [q3] at q1; rw [show (((PR.ok () (t :: r') : PR Unit).bind fun _ => valueB fx f)) = total from htot]; exact q1, fun x q e => by rw [hB]; exact q4 x q (by rw [← htot]; exact e), q5⟩
 have HPP := hid HP; have HT0 := hid htot; obtain ⟨w0, hw0⟩ := eX (w.alloc (.cells #[.int .u8 0, .int .i64 0, .string ⟨#[]⟩, .slice none 0 0, .slice none 0 0] 35)); have hr0 : w0.heap[B]? = some (.cells #[.int .u8 0, .int .i64 0, .string ⟨#[]⟩, .slice none 0 0, .slice none 0 0] 35 (0, 0)) := by rw [← hw0, ← hB]; exact heap_new _ _
 have o0 : Only (fun _ => False) w w0 := by rw [← hw0]; exact (Only.refl _ w).alloc _
 have hs0 : B < w0.heap.size := (gE hr0).1; have cf : ∀ w', Only (fun _ => False) w w' → w'.cell? ⟨b, 0, none⟩ = some (.slice (some ⟨g, off, none⟩) N cc) ∧ w'.cell? ⟨b, 1, none⟩ = some (.int .i64 (i : Int)) ∧ w'.cell? ⟨g, off + i * 4, none⟩ = some (.int .u8 (t.kind : Int)) ∧ w'.cell? ⟨g, off + i * 4 + 1, none⟩ = some (.string ⟨t.text.toArray⟩) ∧ w'.cell? ⟨g, off + i * 4 + 2, none⟩ = some (.int .i64 t.n) ∧ w'.cell? ⟨g, off + i * 4 + 3, none⟩ = some (.int .i64 (t.at_ : Int)) := fun w' o =>
  ⟨by rw [cell_keep o (cell_lt d0) (fun h => h)]; exact d0, by rw [cell_keep o (cell_lt d1) (fun h => h)]; exact d1, by rw [cell_keep o (cell_lt a1) (fun h => h)]; exact a1, by rw [cell_keep o (cell_lt a2) (fun h => h)]; exact a2, by rw [cell_keep o (cell_lt a3) (fun h => h)]; exact a3, by rw [cell_keep o (cell_lt a4) (fun h => h)]; exact a4⟩
 have CF := hid cf; have HH := hid h; have HR0 := hid hr0; have O0 := hid o0; have HW0 := hid hw0; have HBB := hid hB; have HWB := hid (show w.heap.size ≤ B by omega); have HDP := hid hdp; clear HP htot cf h hr0 o0 hw0 hdp d0 d1 d2 d3 d4 dz a1 a2 a3 a4 hbl
 generalize (FAns w b all (.ok () (t :: r')) (fun w' x v => aggP w.heap.size valC w' x v) valF (valueB fx f)) = Q at *
 clear hB
 go_enter Tryz.func95, Tryz.ntmps95
 go_upto_region 1 with (fail)
 rw [HBB.out, HW0.out]; clear HW0 HBB; refine wp_region_steps 11 (by kernel_rfl) rfl (by kernel_rfl) [some 10, some 11, some 12, some 13, some 14, some 15, some 16, some 17, some 18, some 19, some 5] rfl rfl (fun _ => False) [(fun v _ => v = (.pointer (some ⟨b, 0, none⟩))), (fun v _ => v = (.pointer (some ⟨b, 0, none⟩))), (fun v _ => v = (.pointer (some ⟨b, 0, none⟩))), (fun v _ => v = (.slice (some ⟨g, off, none⟩) N cc)), (fun v _ => v = (.pointer (some ⟨b, 0, none⟩))), (fun v _ => v = (.pointer (some ⟨b, 0, none⟩))), (fun v _ => v = (.pointer (some ⟨b, 1, none⟩))), (fun v _ => v = (.int .i64 (i : Int))), (fun v _ => v = (.pointer (some ⟨g, off + i * 4, none⟩))), (fun v _ => v = (.agg #[.int .u8 (t.kind : Int), .string ⟨t.text.toArray⟩, .int .i64 t.n, .int .i64 (t.at_ : Int)])), (fun v wv => ∃ X, v = .pointer (some ⟨X, 0, none⟩) ∧ B < X ∧ wv.heap[X]? = some (.cells [.int .u8 0, .string ⟨#[]⟩, .int .i64 0, .int .i64 0].toArray 109 (0, 0)))] rfl ⟨?_, ?_, ?_, ?_, ?_, ?_, ?_, ?_, ?_, ?_, ?_, trivial⟩ _ rfl ⟨?_, ?_, ?_, ?_, ?_, ?_, ?_, ?_, ?_, ?_, ?_, trivial⟩ ?_
 iterate 10 exact Stable.is _ _
 ·exact (fun v w1 w2 h ho => by obtain ⟨X, e, hX, hc⟩ := h; exact ⟨X, e, hX, kB ho hc (fun h => h)⟩)
 ·intro x wx ox hN TT HTT; unfold StepTo; simp only [putAll, Act.put, zA, zB, zC]; clear hN
  go_wp2_with fail
  exact ⟨rfl, _, rfl, HTT.out _ _ rfl oR⟩
 ·intro x wx ox hN TT HTT; unfold StepTo; simp only [putAll, Act.put, zA, zB, zC, eI (hN.1 rfl)]; clear hN
  go_wp2_with fail
  exact ⟨rfl, _, rfl, HTT.out _ _ rfl oR⟩
 ·intro x wx ox hN TT HTT; unfold StepTo; simp only [putAll, Act.put, zA, zB, zC, eI (hN.1 rfl)]; clear hN
  go_wp2_with fail
  exact ⟨rfl, _, rfl, HTT.out _ _ rfl oR⟩
 ·intro x wx ox hN TT HTT; unfold StepTo; simp only [putAll, Act.put, zA, zB, zC, eI (hN.1 rfl)]; clear hN; obtain ⟨x0, x1, x2, x3, x4, x5⟩ := CF.out wx (O0.out.trans (((Only.refl _ w0).drew).trans ox))
  go_wp2_with fail
  exact ⟨rfl, _, rfl, HTT.out _ _ rfl oR⟩
 ·intro x wx ox hN TT HTT; unfold StepTo; simp only [putAll, Act.put, zA, zB, zC]; clear hN
  go_wp2_with fail
  exact ⟨rfl, _, rfl, HTT.out _ _ rfl oR⟩
 ·intro x wx ox hN TT HTT; unfold StepTo; simp only [putAll, Act.put, zA, zB, zC, eI (hN.1 rfl)]; clear hN
  go_wp2_with fail
  exact ⟨rfl, _, rfl, HTT.out _ _ rfl oR⟩
 ·intro x wx ox hN TT HTT; unfold StepTo; simp only [putAll, Act.put, zA, zB, zC, eI (hN.1 rfl)]; clear hN
  go_wp2_with fail
  exact ⟨rfl, _, rfl, HTT.out _ _ rfl oR⟩
 ·intro x wx ox hN TT HTT; unfold StepTo; simp only [putAll, Act.put, zA, zB, zC, eI (hN.1 rfl)]; clear hN; obtain ⟨x0, x1, x2, x3, x4, x5⟩ := CF.out wx (O0.out.trans (((Only.refl _ w0).drew).trans ox))
  go_wp2_with fail
  exact ⟨rfl, _, rfl, HTT.out _ _ rfl oR⟩
 ·intro x wx ox hN TT HTT; unfold StepTo; simp only [putAll, Act.put, zA, zB, zC, eI (hN.1 rfl), eI (hN.2.1 rfl)]; clear hN
  go_wp2_with fail
  exact ⟨rfl, _, rfl, HTT.out _ _ rfl oR⟩
 ·intro x wx ox hN TT HTT; unfold StepTo; simp only [putAll, Act.put, zA, zB, zC, eI (hN.1 rfl)]; clear hN; obtain ⟨x0, x1, x2, x3, x4, x5⟩ := CF.out wx (O0.out.trans (((Only.refl _ w0).drew).trans ox))
  go_wp2_with fail
  exact ⟨rfl, _, rfl, HTT.out _ _ rfl oR⟩
 ·intro x wx ox hN TT HTT; unfold StepTo; simp only [putAll, Act.put, zA, zB, zC]; clear hN
  go_wp2_with fail
  exact ⟨rfl, _, rfl, HTT.out _ _ (⟨wx.heap.size, rfl, (by have h1 : w0.heap.size ≤ wx.heap.size := ox.size; have h2 := (gE HR0.out).1; omega), heap_new wx _⟩) ((Only.refl _ _).alloc _)⟩
 intro xz wxz oxz hN; have r5 : (fun (v : Value) (wv : World) => ∃ X, v = .pointer (some ⟨X, 0, none⟩) ∧ B < X ∧ wv.heap[X]? = some (.cells [.int .u8 0, .string ⟨#[]⟩, .int .i64 0, .int .i64 0].toArray 109 (0, 0))) (xz 10) wxz := hN.2.2.2.2.2.2.2.2.2.2.1; simp only [putAll, Act.put, zA, zB, zC, eI hN.1, eI hN.2.1, eI hN.2.2.1, eI hN.2.2.2.1, eI hN.2.2.2.2.1, eI hN.2.2.2.2.2.1, eI hN.2.2.2.2.2.2.1, eI hN.2.2.2.2.2.2.2.1, eI hN.2.2.2.2.2.2.2.2.1, eI hN.2.2.2.2.2.2.2.2.2.1]; clear hN; obtain ⟨X, hx5, hBX, hXc⟩ := r5; have o3 := (((Only.refl (fun _ => False) w0).drew).trans oxz); have HXC := hid hXc; have O3 := hid o3; clear hXc o3 oxz; rw [hx5]; clear hx5
 go_upto_region 2 with ((refine wpList_store_box (o := ⟨none, _, _, _, _, _⟩) rfl 109 (.tmp 5) (.tmp 19) (by rfl) X [.int .u8 0, .string ⟨#[]⟩, .int .i64 0, .int .i64 0] [.int .u8 (t.kind : Int), .string ⟨t.text.toArray⟩, .int .i64 t.n, .int .i64 (t.at_ : Int)] (by rfl) (by rfl) HXC.out (by rfl) (by kernel_rfl) (by intro u hu; simp at hu; rcases hu with rfl | rfl | rfl | rfl <;> rfl) ?_; intro w1 k1 k2))
 have o01 : Only (fun k => k = X) w0 w1 := (O3.out.mono (fun _ _ h => h.elim)).trans k2; have HX1 := hid (show w1.heap[X]? = some (.cells #[.int .u8 (t.kind : Int), .string ⟨t.text.toArray⟩, .int .i64 t.n, .int .i64 (t.at_ : Int)] 109 (0, 0)) from k1); have HR1 := hid (kB o01 HR0.out (by omega)); have HO1 := hid (show Only (fun k => k = b) w w1 from (O0.out.mono (T := fun k => k = b) (fun _ _ h => h.elim)).trans' o01 (fun q hq e => by have e : q = X := e; have := HWB.out; omega)); have HD1 := hid ((HH.out.still O0.out).only o01 (fun k hk e => by have e : k = X := e; omega)); clear k1 k2 o01 HXC O3 CF HH HR0 O0
 by_cases hyes : t.kind = 2
 ·have tk : ((t.kind : Int) == 2) = true := by simp; omega
  have HK0 := hid (show isK 0 (t :: r') = false from decide_eq_false (by omega)); have he : total = .ok (.mk 1 t.n [] [] []) r' := by rw [← HT0.out, valueB_cons, if_pos hyes]
  have HE := hid he; clear he; clear hyes; obtain ⟨x0, x1, x2, x3, xz⟩ := boxN4 HX1.out
  go_upto_region 3 with (fail)
  clear x0 x1 x2 x3 xz tk; obtain ⟨_, _, _, _, _, _, _, j, bdj, e0, e1, e2, e3, e4, ez, jlt, jc, jN, -⟩ := HD1.out.next; have jlt2 : (j : Int) + 1 ≤ 1000000 := by omega
  have hdj := HD1.out.step HK0.out e1; have oj : Only (fun k => k = b) w1 (w1.setCell ⟨b, 1, none⟩ (.int .i64 ((j : Int) + 1))) := (Only.refl (fun k => k = b) w1).setCell (.inl rfl) _; obtain ⟨w2, hwj⟩ := eX (w1.setCell ⟨b, 1, none⟩ (.int .i64 ((j : Int) + 1))); rw [hwj] at hdj oj; have HDJ := hid hdj; have HWJ := hid hwj; have OJ := hid oj; clear hdj hwj oj
  go_upto_region 4 with (fail)
  rw [HWJ.out]; clear HWJ e0 e1 e2 e3 e4 ez jlt jc jN jlt2; have HX2 := hid ((OJ.out.block X (gE HX1.out).1 (by omega)).trans HX1.out); have HR2 := hid ((OJ.out.block B (gE HR1.out).1 (by omega)).trans HR1.out); have HO2 := hid (HO1.out.trans' OJ.out (fun q hq e => by exact e)); have HD2 := hid ((show Rf w2 b all (.ok () r') from HDJ.out)); clear HX1 HR1 HO1 HD1; clear HDJ OJ; obtain ⟨x0, x1, x2, x3, xz⟩ := boxN4 HX2.out
  go_wp2_with ((refine wpList_store_box (o := ⟨none, _, _, _, _, _⟩) rfl 35 (.tmp 4) (.tmp 33) (by rfl) B [.int .u8 0, .int .i64 0, .string ⟨#[]⟩, .slice none 0 0, .slice none 0 0] [.int .u8 1, .int .i64 t.n, .string ⟨#[]⟩, .slice none 0 0, .slice none 0 0] (by rfl) (by rfl) HR2.out (by rfl) (by kernel_rfl) (by intro u hu; simp at hu; rcases hu with rfl | rfl | rfl | rfl | rfl <;> rfl) ?_; intro w9 k1 k2))
  clear x0 x1 x2 x3 xz; obtain ⟨y0, y1, y2, y3, y4, -⟩ := boxN5 k1; have hd9 := HD2.out.only k2 (fun k hk e => by have e : k = B := e; omega); have hag : ∀ x q, total = .ok x q → aggP B valC w9 x (.agg #[.int .u8 1, .int .i64 t.n, .string ⟨#[]⟩, .slice none 0 0, .slice none 0 0]) := fun x q e => by
   rw [HE.out] at e; injection e with e1 e2; subst e1; exact ⟨_, rfl, leafC 1 t.n []⟩
  exact bodyPost_ret (v := .agg #[.int .u8 1, .int .i64 t.n, .string ⟨#[]⟩, .slice none 0 0, .slice none 0 0]) (by simp [results, Tryz.results95, go_sem, y0, y1, y2, y3, y4]) rfl (HPP.out w9 _ _ hd9 ⟨1, t.n, [], none, 0, 0, none, 0, 0, rfl⟩ (by rw [HE.out]; rfl) hag (HO2.out.trans' k2 (fun q hq e => by have e : q = B := e; have := HWB.out; omega)))
 have tk2 : ((t.kind : Int) == 2) = false := by simp; omega
 have HNK2 := hid hyes; clear hyes
 by_cases hyes : t.kind = 3
 ·have tk : ((t.kind : Int) == 3) = true := by simp; omega
  have HK0 := hid (show isK 0 (t :: r') = false from decide_eq_false (by omega)); have he : total = .ok (.mk 2 0 t.text [] []) r' := by rw [← HT0.out, valueB_cons, if_neg HNK2.out, if_pos hyes]
  have HE := hid he; clear he; clear hyes; obtain ⟨x0, x1, x2, x3, xz⟩ := boxN4 HX1.out
  go_upto_region 6 with (fail)
  clear x0 x1 x2 x3 xz tk; obtain ⟨_, _, _, _, _, _, _, j, bdj, e0, e1, e2, e3, e4, ez, jlt, jc, jN, -⟩ := HD1.out.next; have jlt2 : (j : Int) + 1 ≤ 1000000 := by omega
  have hdj := HD1.out.step HK0.out e1; have oj : Only (fun k => k = b) w1 (w1.setCell ⟨b, 1, none⟩ (.int .i64 ((j : Int) + 1))) := (Only.refl (fun k => k = b) w1).setCell (.inl rfl) _; obtain ⟨w2, hwj⟩ := eX (w1.setCell ⟨b, 1, none⟩ (.int .i64 ((j : Int) + 1))); rw [hwj] at hdj oj; have HDJ := hid hdj; have HWJ := hid hwj; have OJ := hid oj; clear hdj hwj oj
  go_upto_region 7 with (fail)
  rw [HWJ.out]; clear HWJ e0 e1 e2 e3 e4 ez jlt jc jN jlt2; have HX2 := hid ((OJ.out.block X (gE HX1.out).1 (by omega)).trans HX1.out); have HR2 := hid ((OJ.out.block B (gE HR1.out).1 (by omega)).trans HR1.out); have HO2 := hid (HO1.out.trans' OJ.out (fun q hq e => by exact e)); have HD2 := hid ((show Rf w2 b all (.ok () r') from HDJ.out)); clear HX1 HR1 HO1 HD1; clear HDJ OJ; obtain ⟨x0, x1, x2, x3, xz⟩ := boxN4 HX2.out
  go_wp2_with ((refine wpList_store_box (o := ⟨none, _, _, _, _, _⟩) rfl 35 (.tmp 4) (.tmp 47) (by rfl) B [.int .u8 0, .int .i64 0, .string ⟨#[]⟩, .slice none 0 0, .slice none 0 0] [.int .u8 2, .int .i64 0, .string ⟨t.text.toArray⟩, .slice none 0 0, .slice none 0 0] (by rfl) (by rfl) HR2.out (by rfl) (by kernel_rfl) (by intro u hu; simp at hu; rcases hu with rfl | rfl | rfl | rfl | rfl <;> rfl) ?_; intro w9 k1 k2))
  clear x0 x1 x2 x3 xz; obtain ⟨y0, y1, y2, y3, y4, -⟩ := boxN5 k1; have hd9 := HD2.out.only k2 (fun k hk e => by have e : k = B := e; omega); have hag : ∀ x q, total = .ok x q → aggP B valC w9 x (.agg #[.int .u8 2, .int .i64 0, .string ⟨t.text.toArray⟩, .slice none 0 0, .slice none 0 0]) := fun x q e => by
   rw [HE.out] at e; injection e with e1 e2; subst e1; exact ⟨_, rfl, leafC 2 0 t.text⟩
  exact bodyPost_ret (v := .agg #[.int .u8 2, .int .i64 0, .string ⟨t.text.toArray⟩, .slice none 0 0, .slice none 0 0]) (by simp [results, Tryz.results95, go_sem, y0, y1, y2, y3, y4]) rfl (HPP.out w9 _ _ hd9 ⟨2, 0, t.text, none, 0, 0, none, 0, 0, rfl⟩ (by rw [HE.out]; rfl) hag (HO2.out.trans' k2 (fun q hq e => by have e : q = B := e; have := HWB.out; omega)))
 have tk3 : ((t.kind : Int) == 3) = false := by simp; omega
 have HNK3 := hid hyes; clear hyes; obtain ⟨x0, x1, x2, x3, xz⟩ := boxN4 HX1.out; have T := hid (fEat_any b all (.ok () (t :: r')) [116, 114, 117, 101] w1 HD1.out); unfold tookF at T; obtain ⟨bb, hb⟩ := eX (tst (.ok () (t :: r') : PR Unit) (isT [116, 114, 117, 101])); rw [hb] at T; have HBT := hid hb; clear hb
 cases bb
 rotate_left
 ·have hyes : isT wTrue (t :: r') = true := HBT.out; have he : total = .ok (.mk 3 1 [] [] []) r' := by rw [← HT0.out, valueB_cons, if_neg HNK2.out, if_neg HNK3.out, if_pos hyes]
  have HE := hid he; clear he; rw [if_pos rfl] at T
  go_wp2_with fail
  refine T.out.mono ?_
  rintro e w2 ⟨rfl, hd, o4⟩; clear x0 x1 x2 x3 xz hyes; have HX2 := hid (kB o4 HX1.out (by omega)); have HR2 := hid (kB o4 HR1.out (by omega)); have HO2 := hid (HO1.out.trans' o4 (fun q hq e => by exact e)); have HD2 := hid ((show Rf w2 b all (.ok () r') from hd)); clear HX1 HR1 HO1 HD1; clear o4 hd T
  go_wp2_with ((refine wpList_store_box (o := ⟨none, _, _, _, _, _⟩) rfl 35 (.tmp 4) (.tmp 51) (by rfl) B [.int .u8 0, .int .i64 0, .string ⟨#[]⟩, .slice none 0 0, .slice none 0 0] [.int .u8 3, .int .i64 1, .string ⟨#[]⟩, .slice none 0 0, .slice none 0 0] (by rfl) (by rfl) HR2.out (by rfl) (by kernel_rfl) (by intro u hu; simp at hu; rcases hu with rfl | rfl | rfl | rfl | rfl <;> rfl) ?_; intro w9 k1 k2))
  obtain ⟨y0, y1, y2, y3, y4, -⟩ := boxN5 k1; have hd9 := HD2.out.only k2 (fun k hk e => by have e : k = B := e; omega); have hag : ∀ x q, total = .ok x q → aggP B valC w9 x (.agg #[.int .u8 3, .int .i64 1, .string ⟨#[]⟩, .slice none 0 0, .slice none 0 0]) := fun x q e => by
   rw [HE.out] at e; injection e with e1 e2; subst e1; exact ⟨_, rfl, leafC 3 1 []⟩
  exact bodyPost_ret (v := .agg #[.int .u8 3, .int .i64 1, .string ⟨#[]⟩, .slice none 0 0, .slice none 0 0]) (by simp [results, Tryz.results95, go_sem, y0, y1, y2, y3, y4]) rfl (HPP.out w9 _ _ hd9 ⟨3, 1, [], none, 0, 0, none, 0, 0, rfl⟩ (by rw [HE.out]; rfl) hag (HO2.out.trans' k2 (fun q hq e => by have e : q = B := e; have := HWB.out; omega)))
 have HNT := hid (show ¬ isT wTrue (t :: r') = true from by have := HBT.out; rw [show isT wTrue (t :: r') = false from this]; decide); rw [if_neg (by decide)] at T
 go_wp2_with fail
 refine T.out.mono ?_
 rintro e w2 ⟨rfl, hd, o4⟩; clear x0 x1 x2 x3 xz HBT; have HX2 := hid (kB o4 HX1.out (by omega)); have HR2 := hid (kB o4 HR1.out (by omega)); have HO2 := hid (HO1.out.trans' o4 (fun q hq e => by exact e)); have HD2 := hid (hd); clear HX1 HR1 HO1 HD1; clear o4 hd T; obtain ⟨x0, x1, x2, x3, xz⟩ := boxN4 HX2.out; have T := hid (fEat_any b all (.ok () (t :: r')) [102, 97, 108, 115, 101] w2 HD2.out); unfold tookF at T; obtain ⟨bb, hb⟩ := eX (tst (.ok () (t :: r') : PR Unit) (isT [102, 97, 108, 115, 101])); rw [hb] at T; have HBT := hid hb; clear hb
 cases bb
 rotate_left
 ·have hyes : isT wFalse (t :: r') = true := HBT.out; have he : total = .ok (.mk 3 0 [] [] []) r' := by rw [← HT0.out, valueB_cons, if_neg HNK2.out, if_neg HNK3.out, if_neg HNT.out, if_pos hyes]
  have HE := hid he; clear he; rw [if_pos rfl] at T
  go_wp2_with fail
  refine T.out.mono ?_
  rintro e w3 ⟨rfl, hd, o4⟩; clear x0 x1 x2 x3 xz hyes; have HX3 := hid (kB o4 HX2.out (by omega)); have HR3 := hid (kB o4 HR2.out (by omega)); have HO3 := hid (HO2.out.trans' o4 (fun q hq e => by exact e)); have HD3 := hid ((show Rf w3 b all (.ok () r') from hd)); clear HX2 HR2 HO2 HD2; clear o4 hd T
  go_wp2_with ((refine wpList_store_box (o := ⟨none, _, _, _, _, _⟩) rfl 35 (.tmp 4) (.tmp 55) (by rfl) B [.int .u8 0, .int .i64 0, .string ⟨#[]⟩, .slice none 0 0, .slice none 0 0] [.int .u8 3, .int .i64 0, .string ⟨#[]⟩, .slice none 0 0, .slice none 0 0] (by rfl) (by rfl) HR3.out (by rfl) (by kernel_rfl) (by intro u hu; simp at hu; rcases hu with rfl | rfl | rfl | rfl | rfl <;> rfl) ?_; intro w9 k1 k2))
  obtain ⟨y0, y1, y2, y3, y4, -⟩ := boxN5 k1; have hd9 := HD3.out.only k2 (fun k hk e => by have e : k = B := e; omega); have hag : ∀ x q, total = .ok x q → aggP B valC w9 x (.agg #[.int .u8 3, .int .i64 0, .string ⟨#[]⟩, .slice none 0 0, .slice none 0 0]) := fun x q e => by
   rw [HE.out] at e; injection e with e1 e2; subst e1; exact ⟨_, rfl, leafC 3 0 []⟩
  exact bodyPost_ret (v := .agg #[.int .u8 3, .int .i64 0, .string ⟨#[]⟩, .slice none 0 0, .slice none 0 0]) (by simp [results, Tryz.results95, go_sem, y0, y1, y2, y3, y4]) rfl (HPP.out w9 _ _ hd9 ⟨3, 0, [], none, 0, 0, none, 0, 0, rfl⟩ (by rw [HE.out]; rfl) hag (HO3.out.trans' k2 (fun q hq e => by have e : q = B := e; have := HWB.out; omega)))
 have HNF := hid (show ¬ isT wFalse (t :: r') = true from by have := HBT.out; rw [show isT wFalse (t :: r') = false from this]; decide); rw [if_neg (by decide)] at T
 go_wp2_with fail
 refine T.out.mono ?_
 rintro e w3 ⟨rfl, hd, o4⟩; clear x0 x1 x2 x3 xz HBT; have HX3 := hid (kB o4 HX2.out (by omega)); have HR3 := hid (kB o4 HR2.out (by omega)); have HO3 := hid (HO2.out.trans' o4 (fun q hq e => by exact e)); have HD3 := hid (hd); clear HX2 HR2 HO2 HD2; clear o4 hd T; obtain ⟨x0, x1, x2, x3, xz⟩ := boxN4 HX3.out; have T := hid (fEat_any b all (.ok () (t :: r')) [110, 117, 108, 108] w3 HD3.out); unfold tookF at T; obtain ⟨bb, hb⟩ := eX (tst (.ok () (t :: r') : PR Unit) (isT [110, 117, 108, 108])); rw [hb] at T; have HBT := hid hb; clear hb
 cases bb
 rotate_left
 ·have hyes : isT wNull (t :: r') = true := HBT.out; have he : total = .ok (VT.zero) r' := by rw [← HT0.out, valueB_cons, if_neg HNK2.out, if_neg HNK3.out, if_neg HNT.out, if_neg HNF.out, if_pos hyes]
  have HE := hid he; clear he; rw [if_pos rfl] at T
  go_wp2_with fail
  refine T.out.mono ?_
  rintro e w4 ⟨rfl, hd, o4⟩; clear x0 x1 x2 x3 xz hyes; have HX4 := hid (kB o4 HX3.out (by omega)); have HR4 := hid (kB o4 HR3.out (by omega)); have HO4 := hid (HO3.out.trans' o4 (fun q hq e => by exact e)); have HD4 := hid ((show Rf w4 b all (.ok () r') from hd)); clear HX3 HR3 HO3 HD3; clear o4 hd T
  go_wp2_with ((refine wpList_store_box (o := ⟨none, _, _, _, _, _⟩) rfl 35 (.tmp 4) (.tmp 59) (by rfl) B [.int .u8 0, .int .i64 0, .string ⟨#[]⟩, .slice none 0 0, .slice none 0 0] [.int .u8 0, .int .i64 0, .string ⟨#[]⟩, .slice none 0 0, .slice none 0 0] (by rfl) (by rfl) HR4.out (by rfl) (by kernel_rfl) (by intro u hu; simp at hu; rcases hu with rfl | rfl | rfl | rfl | rfl <;> rfl) ?_; intro w9 k1 k2))
  obtain ⟨y0, y1, y2, y3, y4, -⟩ := boxN5 k1; have hd9 := HD4.out.only k2 (fun k hk e => by have e : k = B := e; omega); have hag : ∀ x q, total = .ok x q → aggP B valC w9 x (.agg #[.int .u8 0, .int .i64 0, .string ⟨#[]⟩, .slice none 0 0, .slice none 0 0]) := fun x q e => by
   rw [HE.out] at e; injection e with e1 e2; subst e1; exact ⟨_, rfl, leafC 0 0 []⟩
  exact bodyPost_ret (v := .agg #[.int .u8 0, .int .i64 0, .string ⟨#[]⟩, .slice none 0 0, .slice none 0 0]) (by simp [results, Tryz.results95, go_sem, y0, y1, y2, y3, y4]) rfl (HPP.out w9 _ _ hd9 ⟨0, 0, [], none, 0, 0, none, 0, 0, rfl⟩ (by rw [HE.out]; rfl) hag (HO4.out.trans' k2 (fun q hq e => by have e : q = B := e; have := HWB.out; omega)))
 have HNN := hid (show ¬ isT wNull (t :: r') = true from by have := HBT.out; rw [show isT wNull (t :: r') = false from this]; decide); rw [if_neg (by decide)] at T
 go_wp2_with fail
 refine T.out.mono ?_
 rintro e w4 ⟨rfl, hd, o4⟩; clear x0 x1 x2 x3 xz HBT; have HX4 := hid (kB o4 HX3.out (by omega)); have HR4 := hid (kB o4 HR3.out (by omega)); have HO4 := hid (HO3.out.trans' o4 (fun q hq e => by exact e)); have HD4 := hid (hd); clear HX3 HR3 HO3 HD3; clear o4 hd T
 by_cases hyes : t.kind = 1
 ·have tk : ((t.kind : Int) == 1) = true := by simp; omega
  have HK0 := hid (show isK 0 (t :: r') = false from decide_eq_false (by omega)); have he : total = .ok (.mk 4 0 t.text [] []) r' := by rw [← HT0.out, valueB_cons, if_neg HNK2.out, if_neg HNK3.out, if_neg HNT.out, if_neg HNF.out, if_neg HNN.out, if_pos hyes]
  have HE := hid he; clear he; clear hyes; obtain ⟨x0, x1, x2, x3, xz⟩ := boxN4 HX4.out
  go_upto_region 15 with (fail)
  clear x0 x1 x2 x3 xz tk; obtain ⟨_, _, _, _, _, _, _, j, bdj, e0, e1, e2, e3, e4, ez, jlt, jc, jN, -⟩ := HD4.out.next; have jlt2 : (j : Int) + 1 ≤ 1000000 := by omega
  have hdj := HD4.out.step HK0.out e1; have oj : Only (fun k => k = b) w4 (w4.setCell ⟨b, 1, none⟩ (.int .i64 ((j : Int) + 1))) := (Only.refl (fun k => k = b) w4).setCell (.inl rfl) _; obtain ⟨w5, hwj⟩ := eX (w4.setCell ⟨b, 1, none⟩ (.int .i64 ((j : Int) + 1))); rw [hwj] at hdj oj; have HDJ := hid hdj; have HWJ := hid hwj; have OJ := hid oj; clear hdj hwj oj
  go_upto_region 16 with (fail)
  rw [HWJ.out]; clear HWJ e0 e1 e2 e3 e4 ez jlt jc jN jlt2; have HX5 := hid ((OJ.out.block X (gE HX4.out).1 (by omega)).trans HX4.out); have HR5 := hid ((OJ.out.block B (gE HR4.out).1 (by omega)).trans HR4.out); have HO5 := hid (HO4.out.trans' OJ.out (fun q hq e => by exact e)); have HD5 := hid ((show Rf w5 b all (.ok () r') from HDJ.out)); clear HX4 HR4 HO4 HD4; clear HDJ OJ; obtain ⟨x0, x1, x2, x3, xz⟩ := boxN4 HX5.out
  go_wp2_with ((refine wpList_store_box (o := ⟨none, _, _, _, _, _⟩) rfl 35 (.tmp 4) (.tmp 73) (by rfl) B [.int .u8 0, .int .i64 0, .string ⟨#[]⟩, .slice none 0 0, .slice none 0 0] [.int .u8 4, .int .i64 0, .string ⟨t.text.toArray⟩, .slice none 0 0, .slice none 0 0] (by rfl) (by rfl) HR5.out (by rfl) (by kernel_rfl) (by intro u hu; simp at hu; rcases hu with rfl | rfl | rfl | rfl | rfl <;> rfl) ?_; intro w9 k1 k2))
  clear x0 x1 x2 x3 xz; obtain ⟨y0, y1, y2, y3, y4, -⟩ := boxN5 k1; have hd9 := HD5.out.only k2 (fun k hk e => by have e : k = B := e; omega); have hag : ∀ x q, total = .ok x q → aggP B valC w9 x (.agg #[.int .u8 4, .int .i64 0, .string ⟨t.text.toArray⟩, .slice none 0 0, .slice none 0 0]) := fun x q e => by
   rw [HE.out] at e; injection e with e1 e2; subst e1; exact ⟨_, rfl, leafC 4 0 t.text⟩
  exact bodyPost_ret (v := .agg #[.int .u8 4, .int .i64 0, .string ⟨t.text.toArray⟩, .slice none 0 0, .slice none 0 0]) (by simp [results, Tryz.results95, go_sem, y0, y1, y2, y3, y4]) rfl (HPP.out w9 _ _ hd9 ⟨4, 0, t.text, none, 0, 0, none, 0, 0, rfl⟩ (by rw [HE.out]; rfl) hag (HO5.out.trans' k2 (fun q hq e => by have e : q = B := e; have := HWB.out; omega)))
 have tk1 : ((t.kind : Int) == 1) = false := by simp; omega
 have HNK1 := hid hyes; clear hyes; obtain ⟨x0, x1, x2, x3, xz⟩ := boxN4 HX4.out; have T := hid (fSign_any b all (.ok () (t :: r')) [36] w4 HD4.out); rw [← HD4.out.sign 36 [] (by decide)] at T; obtain ⟨bb, hb⟩ := eX (tst (.ok () (t :: r') : PR Unit) (isT [36])); rw [hb] at T; have HBT := hid hb; clear hb; have HV : ∀ {P : Prop}, (bb = true → fx = false → P) → ((!fx && isT [36] (t :: r')) = false → P) → P := fun {P} h1 h2 => by
  have e : isT [36] (t :: r') = bb := HBT.out
  cases bb with
  | false => exact h2 (by rw [e, Bool.and_false])
  | true => cases fx with
   | true => exact h2 rfl
   | false => exact h1 rfl rfl
 by_cases hv : bb = true ∧ fx = false
 ·obtain ⟨rfl, rfl⟩ := hv; clear HV; have he : total = (nameP r').bind fun s r1 => .ok (.mk 7 0 s [] []) r1 := by rw [← HT0.out, valueB_cons, if_neg HNK2.out, if_neg HNK3.out, if_neg HNT.out, if_neg HNF.out, if_neg HNN.out, if_neg HNK1.out, if_pos (by have := HBT.out; rw [show isT [36] (t :: r') = true from this]; rfl)]
  have HE := hid he; clear he
  have HK0 := hid (show isK 0 (t :: r') = false from by
   have hb : isT [36] (t :: r') = true := HBT.out; refine decide_eq_false (fun h0 => ?_)
   have hb : (decide (t.kind = 4) && decide (t.text = [36]) || decide (t.kind = 1) && decide (t.text = [36])) = true := hb
   rw [h0] at hb; simp at hb)
  go_wp2_with fail
  refine T.out.mono ?_
  rintro e w5 ⟨rfl, o4⟩; clear x0 x1 x2 x3 xz; have HX5 := hid (kB o4 HX4.out (fun h => h)); have HR5 := hid (kB o4 HR4.out (fun h => h)); have HO5 := hid (HO4.out.trans' o4 (fun q hq e => by exact e.elim)); have HD5 := hid (HD4.out.still o4); clear HX4 HR4 HO4 HD4; clear o4 T HBT
  go_upto_region 18 with (fail)
  obtain ⟨_, _, _, _, _, _, _, j, bdj, e0, e1, e2, e3, e4, ez, jlt, jc, jN, -⟩ := HD5.out.next; have jlt2 : (j : Int) + 1 ≤ 1000000 := by omega
  have hdj := HD5.out.step HK0.out e1; have oj : Only (fun k => k = b) w5 (w5.setCell ⟨b, 1, none⟩ (.int .i64 ((j : Int) + 1))) := (Only.refl (fun k => k = b) w5).setCell (.inl rfl) _; obtain ⟨w6, hwj⟩ := eX (w5.setCell ⟨b, 1, none⟩ (.int .i64 ((j : Int) + 1))); rw [hwj] at hdj oj; have HDJ := hid hdj; have HWJ := hid hwj; have OJ := hid oj; clear hdj hwj oj
  go_upto_region 19 with (fail)
  rw [HWJ.out]; clear HWJ e0 e1 e2 e3 e4 ez jlt jc jN jlt2; have HX6 := hid ((OJ.out.block X (gE HX5.out).1 (by omega)).trans HX5.out); have HR6 := hid ((OJ.out.block B (gE HR5.out).1 (by omega)).trans HR5.out); have HO6 := hid (HO5.out.trans' OJ.out (fun q hq e => by exact e)); have HD6 := hid ((show Rf w6 b all (.ok () r') from HDJ.out)); clear HX5 HR5 HO5 HD5; clear HDJ OJ; have J := hid (fName_any b all (.ok () r') w6 HD6.out)
  go_wp2_with fail
  refine J.out.mono ?_
  rintro e w7 ⟨v, rfl, ⟨s, rfl⟩, hd, hv, o4⟩; have HVS := hid (show ∀ x q, nameP r' = .ok x q → s = x from fun x q e => strF_inj (hv x q e)); have HX7 := hid (kB o4 HX6.out (by omega)); have HR7 := hid (kB o4 HR6.out (by omega)); have HO7 := hid (HO6.out.trans' o4 (fun q hq e => by exact e)); have HD7 := hid ((show Rf w7 b all (nameP r').unit from hd)); clear HX6 HR6 HO6 HD6; clear o4 hd hv J
  go_wp2_with ((refine wpList_store_box (o := ⟨none, _, _, _, _, _⟩) rfl 35 (.tmp 4) (.tmp 90) (by rfl) B [.int .u8 0, .int .i64 0, .string ⟨#[]⟩, .slice none 0 0, .slice none 0 0] [.int .u8 7, .int .i64 0, .string ⟨s.toArray⟩, .slice none 0 0, .slice none 0 0] (by rfl) (by rfl) HR7.out (by rfl) (by kernel_rfl) (by intro u hu; simp at hu; rcases hu with rfl | rfl | rfl | rfl | rfl <;> rfl) ?_; intro w9 k1 k2))
  obtain ⟨y0, y1, y2, y3, y4, -⟩ := boxN5 k1; have hd9 := HD7.out.only k2 (fun k hk e => by have e : k = B := e; omega); have hag : ∀ x q, total = .ok x q → aggP B valC w9 x (.agg #[.int .u8 7, .int .i64 0, .string ⟨s.toArray⟩, .slice none 0 0, .slice none 0 0]) := fun x q e => by
   rw [HE.out] at e; obtain ⟨s', r1, e1, e2⟩ := bind_inv e
   injection e2 with e2 _; subst e2
   have := HVS.out s' r1 e1; subst this; exact ⟨_, rfl, leafC 7 0 s⟩
  exact bodyPost_ret (v := .agg #[.int .u8 7, .int .i64 0, .string ⟨s.toArray⟩, .slice none 0 0, .slice none 0 0]) (by simp [results, Tryz.results95, go_sem, y0, y1, y2, y3, y4]) rfl (HPP.out w9 _ _ hd9 ⟨7, 0, s, none, 0, 0, none, 0, 0, rfl⟩ (by rw [HE.out]; cases nameP r' <;> rfl) hag (HO7.out.trans' k2 (fun q hq e => by have e : q = B := e; have := HWB.out; omega)))
 have HNV := hid (show ¬ (!fx && isT [36] (t :: r')) = true from HV (fun h1 h2 => absurd ⟨h1, h2⟩ hv) (fun h => by rw [h]; decide)); clear HV
 go_upto_region 17 with (fail)
 go_cut [74] from 74 to 80 (fun v w' => v = .bool false ∧ Only (fun _ => False) w4 w')
 case first =>
  have hpick : bb = false ∨ (bb = true ∧ fx = true) := by cases bb <;> cases fx <;> simp at hv ⊢
  clear hv HNV HBT
  rcases hpick with rfl | ⟨rfl, rfl⟩
  ·go_wp2_with fail
   refine T.out.mono ?_
   rintro e wq ⟨rfl, o4⟩
   go_wp2_with fail
   go_meet
   case rel => exact ⟨rfl, o4⟩
  ·go_wp2_with fail
   refine T.out.mono ?_
   rintro e wq ⟨rfl, o4⟩
   go_wp2_with fail
   go_meet
   case rel => exact ⟨rfl, o4⟩
 case rest =>
 obtain ⟨rfl, o4⟩ := hcut; obtain ⟨w5, hwc⟩ := eX (wc); rw [hwc] at o4 ⊢; clear hwc x0 x1 x2 x3 xz; have HX5 := hid (kB o4 HX4.out (fun h => h)); have HR5 := hid (kB o4 HR4.out (fun h => h)); have HO5 := hid (HO4.out.trans' o4 (fun q hq e => by exact e.elim)); have HD5 := hid (HD4.out.still o4); clear HX4 HR4 HO4 HD4; clear o4 T HBT hv; have T := hid (fEat_any b all (.ok () (t :: r')) [91] w5 HD5.out); unfold tookF at T; obtain ⟨bb, hb⟩ := eX (tst (.ok () (t :: r') : PR Unit) (isT [91])); rw [hb] at T; have HBT := hid hb; clear hb
 cases bb
 rotate_left
 ·have hyes : isT [91] (t :: r') = true := HBT.out; have he : total = (anyP (f) [93] (r'.length + 1) [] r').bind fun vs r1 => .ok (.mk 5 0 [] [] vs) r1 := by rw [← HT0.out, valueB_cons, if_neg HNK2.out, if_neg HNK3.out, if_neg HNT.out, if_neg HNF.out, if_neg HNN.out, if_neg HNK1.out, if_neg HNV.out, if_pos hyes]
  have HE := hid he; clear he; rw [if_pos rfl] at T
  go_wp2_with fail
  refine T.out.mono ?_
  rintro e w6 ⟨rfl, hd, o4⟩; clear hyes; have HX6 := hid (kB o4 HX5.out (by omega)); have HR6 := hid (kB o4 HR5.out (by omega)); have HO6 := hid (HO5.out.trans' o4 (fun q hq e => by exact e)); have HD6 := hid ((show Rf w6 b all (.ok () r') from hd)); clear HX5 HR5 HO5 HD5; clear o4 hd T HBT; obtain ⟨Y, hY⟩ := eX (w6.heap.size); have hXY : X < Y := by rw [← hY]; exact (gE HX6.out).1
  obtain ⟨w7, hw9⟩ := eX (w6.alloc (.cells #[.int .u8 5, .int .i64 0, .string ⟨#[]⟩, .slice none 0 0, .slice none 0 0] 35)); have hy9 : w7.heap[Y]? = some (.cells #[.int .u8 5, .int .i64 0, .string ⟨#[]⟩, .slice none 0 0, .slice none 0 0] 35 (0, 0)) := by rw [← hw9, ← hY]; exact heap_new _ _
  have oa : Only (fun _ => False) w6 w7 := by rw [← hw9]; exact (Only.refl _ _).alloc _
  have HW9 := hid hw9; have HYY := hid hY; have HY9 := hid hy9; clear hw9 hY hy9; have HX7 := hid (kB oa HX6.out (fun h => h)); have HR7 := hid (kB oa HR6.out (fun h => h)); have HO7 := hid (HO6.out.trans' oa (fun q hq e => by exact e.elim)); have HD7 := hid (HD6.out.still oa); clear HX6 HR6 HO6 HD6; clear oa; obtain ⟨tl, htl⟩ := eX (anyP (f) [93] (r'.length + 1) [] r'); have hls := LS.start (p := f) (c := [93]) false (K := fun acc => ([] : List (List Cell)) = acc.map valC) rfl (σ := .ok () r') (fun u r e => by injection e with _ e; subst e; exact HD7.out.few.1); have hls : LS (f) [93] tl false 0 (fun acc => ([] : List (List Cell)) = acc.map valC) (.ok () r') := by rw [← htl]; exact hls
  have HI := hid (show LF w Y B b all f tl w7 from ⟨.ok () r', [], .slice none 0 0, HY9.out, OwnRow.nil _ _ _ _, HD7.out, HR7.out, HO7.out, hls⟩); rw [htl] at HE; clear hls htl
  go_upto_region 22 with (fail)
  rw [HYY.out, HW9.out]; clear HW9 HYY HY9 HX7 HR7 HD7 HO7
  go_loopw [] (fun wr => Hid (LF w Y B b all f tl wr)) (fun wr => muF wr b all)
  case atStart => exact HI
  case round =>
   obtain ⟨σ, rs, vL, hy, hown, hd, hrb, hon, hls⟩ := hrel.out; obtain ⟨aL, cL, eL, fL1, fL2, fL3⟩ := hown.form; subst eL; have fL2n : cL ≤ 9223372036854775807 := by unfold maxLen at fL2; omega
   have HYr := hid hy; have HOWN := hid hown; have HDr := hid hd; have HRr := hid hrb; have HOr := hid hon; have HLS := hid hls; have HFL := hid fL3; have hYr : Y < wr.heap.size := (gE hy).1; obtain ⟨e0, ce, cz, hσ⟩ := hd.err; clear hy hown hd hrb hon hls fL2 fL3 hrel HI
   rcases hσ with ⟨rr, rfl, rfl⟩ | ⟨ab, rfl, he0⟩
   ·have T := hid (fEat_any b all (.ok () rr) [93] wr HDr.out); unfold tookF at T; obtain ⟨bb, hb⟩ := eX (tst (.ok () rr : PR Unit) (isT [93])); rw [hb] at T; have HBT := hid (show isT [93] rr = bb from hb); clear hb
    cases bb
    ·-- one more
     rw [if_neg (by decide)] at T
     go_wp2_with fail
     refine T.out.mono ?_
     rintro e w20 ⟨rfl, hd, o4⟩; clear ce cz; have HY20 := hid (kB o4 HYr.out (by omega)); have HR20 := hid (kB o4 HRr.out (by omega)); have HO20 := hid (HOr.out.trans o4); have HW20 := hid (HOWN.out.only o4 (fun k h1 h2 e => by have e : k = b := e; omega)); have HF20 := hid (show ∀ k, (Value.slice aL rs.length cL).ownBlock = some k → Y + 1 ≤ k ∧ k < w20.heap.size from fun k hk => ⟨(HFL.out k hk).1, Nat.lt_of_lt_of_le (HFL.out k hk).2 o4.size⟩); have J := hid (IH.out (.ok () rr) w20 hd); clear hd o4 T
     go_wp2_with fail
     refine J.out.mono ?_
     rintro e w21 ⟨v, rfl, ⟨kd, nm, sv, a1, l1, p1, a2, l2, p2, rfl⟩, hd, hv, o4⟩; have hsz : w20.heap.size ≤ w21.heap.size := o4.size; have hvc : ∀ x q, f rr = .ok x q → CellsAt w21 (fun q => w20.heap.size ≤ q ∧ q < w21.heap.size) (valC x) [.int .u8 (kd : Int), .int .i64 nm, .string ⟨sv.toArray⟩, .slice a1 l1 p1, .slice a2 l2 p2] := fun x q e => CellsAt.weaken (fun q hq h => ⟨h, hq⟩) _ _ (aggF_cells (hv x q e))
     obtain ⟨row, hrow, hrx⟩ := elem_row (P := f rr) (enc := valC) (ys := [.int .u8 (kd : Int), .int .i64 nm, .string ⟨sv.toArray⟩, .slice a1 l1 p1, .slice a2 l2 p2]) hvc (by intro u hu; simp at hu; rcases hu with rfl | rfl | rfl | rfl | rfl <;> rfl); obtain ⟨X2, hX2⟩ := eX (w21.heap.size); obtain ⟨w22, hw22⟩ := eX (w21.alloc (.cells #[.int .u8 (kd : Int), .int .i64 nm, .string ⟨sv.toArray⟩, .slice a1 l1 p1, .slice a2 l2 p2] 35)); have ox : Only (fun _ => False) w21 w22 := by rw [← hw22]; exact (Only.refl _ _).alloc _
     have hx2 : w22.heap[X2]? = some (.cells #[.int .u8 (kd : Int), .int .i64 nm, .string ⟨sv.toArray⟩, .slice a1 l1 p1, .slice a2 l2 p2] 35 (0, 0)) := by rw [← hw22, ← hX2]; exact heap_new _ _
     obtain ⟨G, hG⟩ := eX (w22.heap.size); obtain ⟨w23, hw23⟩ := eX (w22.alloc (.cells #[.int .u8 (kd : Int), .int .i64 nm, .string ⟨sv.toArray⟩, .slice a1 l1 p1, .slice a2 l2 p2] 35)); have og : Only (fun _ => False) w22 w23 := by rw [← hw23]; exact (Only.refl _ _).alloc _
     have hgg : w23.heap[G]? = some (.cells #[.int .u8 (kd : Int), .int .i64 nm, .string ⟨sv.toArray⟩, .slice a1 l1 p1, .slice a2 l2 p2] 35 (0, 0)) := by rw [← hw23, ← hG]; exact heap_new _ _
     have o13 : Only (fun _ => False) w21 w23 := ox.trans og; have o03 : Only (fun k => k = b) w20 w23 := o4.trans' o13 (fun _ _ h => h.elim); have hGs : G + 1 = w23.heap.size := by rw [← hw23, World.size_alloc, hG]
     have hGY : Y + 1 ≤ G := by have h1 := HF20.out; have h2 := ox.size; have : Y < w20.heap.size := (gE HY20.out).1; omega
     have HY22 := hid (((o4.trans' ox (fun _ _ h => h.elim)).block Y (gE HY20.out).1 (by omega)).trans HY20.out); have HY23 := hid (kB o03 HY20.out (by omega)); have HR23 := hid (kB o03 HR20.out (by omega)); have HO23 := hid (HO20.out.trans o03); have HD23 := hid (show Rf w23 b all (f rr).unit from hd.still o13); have HW23 := hid (HW20.out.only o03 (fun k h1 h2 e => by have e : k = b := e; omega)); have HROW := hid (show CellsAt w23 (fun q => Y + 1 ≤ q ∧ (Value.slice aL rs.length cL).ownBlock ≠ some q ∧ q < w23.heap.size) row [.int .u8 (kd : Int), .int .i64 nm, .string ⟨sv.toArray⟩, .slice a1 l1 p1, .slice a2 l2 p2] from CellsAt.weaken (fun q hq h => by have := HF20.out; have hy : Y < w20.heap.size := (gE HY20.out).1; exact ⟨by omega, fun hvv => by have := (HF20.out q hvv).2; omega, hq⟩) _ _ (CellsAt.only o13 (fun _ _ h => h) _ _ hrow)); have HRX := hid hrx; have HX2 := hid hX2; have HW22 := hid hw22; have HG := hid hG; have HWG := hid hw23; have HXX := hid hx2; have HGG := hid hgg; have HGS := hid hGs; clear hrx hX2 hw22 hG hw23 hx2 hgg ox og o13 o03 hd hv hvc hrow o4 J hGs
     go_upto_region 24 with (fail)
     rw [HX2.out, HW22.out]; clear HX2 HW22; obtain ⟨c0, c1, c2, c3, c4, cz⟩ := boxN5 HY22.out; obtain ⟨x0, x1, x2, x3, x4, -⟩ := boxN5 HXX.out; have hys : ∀ j u, ([.int .u8 (kd : Int), .int .i64 nm, .string ⟨sv.toArray⟩, .slice a1 l1 p1, .slice a2 l2 p2] : List Value)[j]? = some u → w23.cell? ((⟨G, 0, none⟩ : Addr).add j) = some u := fun j u hu => by rw [addr_add]; exact range_of_block (cs := [.int .u8 (kd : Int), .int .i64 nm, .string ⟨sv.toArray⟩, .slice a1 l1 p1, .slice a2 l2 p2]) HGG.out j u hu
     have hone : ∀ u ∈ ([.int .u8 (kd : Int), .int .i64 nm, .string ⟨sv.toArray⟩, .slice a1 l1 p1, .slice a2 l2 p2] : List Value), u.oneCell' = true := by intro u hu; simp at hu; rcases hu with rfl | rfl | rfl | rfl | rfl <;> rfl
     obtain ⟨xs, p1', p2'⟩ := HW23.out; have hfew := (HLS.out.ok _ _ rfl).1; have hrp := HDr.out.few.2; have HYS := hid hys; have HONE := hid hone; have HP1 := hid p1'; have HP2 := hid p2'; have HFEW := hid (show rs.length + 1 ≤ 1000000 by omega); clear hys hone p1' p2' hfew hrp
     go_wp2_with ((rw [HG.out, HWG.out]; refine wpList_append_own2 (o := ⟨some 112, _, _, _, _, _⟩) rfl (.tmp 109) (.tmp 111) 33 35 (by rfl) Tryz.underlying33 infoValF rfl (by decide) (Y + 1) (.slice aL rs.length cL) rs.length 1 1 xs [.int .u8 (kd : Int), .int .i64 nm, .string ⟨sv.toArray⟩, .slice a1 l1 p1, .slice a2 l2 p2] ⟨G, 0, none⟩ (by rfl) (by rfl) HP1.out (by rfl) HYS.out HONE.out (by have := HFEW.out; unfold maxLen; omega) (by have := HFEW.out; omega) (by have := HGS.out; omega) ?_; intro v' w24 q1 q2 q3; obtain ⟨aL', cL', eL', gL1, gL2, -⟩ := own_form q1; subst eL'; clear c0 c1 c2 c3 c4 cz x0 x1 x2 x3 x4; obtain ⟨c0, c1, c2, c3, c4, cz⟩ := boxN5 ((q2.block Y (gE HY23.out).1 (fun e => by have := (HF20.out Y e).1; omega)).trans HY23.out)))
     have hF20 := HF20.out; have hrow2 := OwnRow.append HP1.out HP2.out rfl HROW.out q1 q2 q3; have hyr := (q2.block Y (gE HY23.out).1 (fun e => by have := (hF20 Y e).1; omega)).trans HY23.out; have hrr := (q2.block B (gE HR23.out).1 (fun e => by have := (hF20 B e).1; omega)).trans HR23.out; have hdd := HD23.out.only q2 (fun k hk h => by have := (hF20 k h).1; omega); have hoo : Only (fun k => k = b) w w24 := HO23.out.trans' q2 (fun q hq h => by have := (hF20 q h).1; have := HWB.out; omega); have oy : Only (fun k => k = Y) w24 (w24.setCell ⟨Y, 4, none⟩ (.slice aL' (rs.length + 1) cL')) := (Only.refl (fun k => k = Y) w24).setCell (p := ⟨Y, 4, none⟩) (.inl rfl) _; have hy6 := heap_set (o := 4) hyr (.slice aL' (rs.length + 1) cL'); have hlss := HLS.out.next (K' := fun acc => rs ++ [row] = acc.map valC) HTK.out HDr.out.few.2 (.inr HBT.out) (fun acc x q h1 h2 => by rw [h1, HRX.out x q h2, List.map_append]; rfl); have hmu : muF (w24.setCell ⟨Y, 4, none⟩ (.slice aL' (rs.length + 1) cL')) b all < muF wr b all := by
      rw [muF_ok HDr.out]; have hd9 := hdd.only oy (fun k hk e => by have e : k = Y := e; omega)
      cases hq : f rr with
      | bad p q => rw [hq] at hd9; rw [muF_bad hd9]; omega
      | ok x r2 => rw [hq] at hd9; rw [muF_ok (u := ()) hd9]; have := HTK.out _ _ _ hq; omega
     have hnew : LF w Y B b all f tl (w24.setCell ⟨Y, 4, none⟩ (.slice aL' (rs.length + 1) cL')) := ⟨(f rr).unit, rs ++ [row], .slice aL' (rs.length + 1) cL', by simpa using hy6, by exact hrow2.only oy (fun k h1 h2 e => by have e : k = Y := e; omega), hdd.only oy (fun k hk e => by have e : k = Y := e; omega), kB oy hrr (by show B ≠ Y; omega), hoo.trans' oy (fun q hq e => by have e : q = Y := e; have := HWB.out; omega), by rw [List.length_append, List.length_singleton]; exact hlss⟩; have HNEW := hid hnew; have HMU := hid hmu; clear hnew hmu hlss hy6 oy hoo hdd hrr hyr hrow2 q1 q2 q3 gL1 gL2 hF20 HY22 HY23 HR23 HO23 HD23 HW23 HROW
     go_wp2_with fail
     go_roundw
     case rel => exact HNEW
     case measure => exact HMU.out
    ·rw [if_pos rfl] at T; obtain ⟨acc, hK, htl⟩ := HLS.out.stop HBT.out; have HK := hid hK; have HTL := hid htl; clear hK htl
     go_wp2_with fail
     refine T.out.mono ?_
     rintro e w20 ⟨rfl, hd, o4⟩; clear ce cz; have HY20 := hid (kB o4 HYr.out (by omega)); have HR20 := hid (kB o4 HRr.out (by omega)); have HO20 := hid (HOr.out.trans o4); have HW20 := hid (HOWN.out.only o4 (fun k h1 h2 e => by have e : k = b := e; omega)); have HD20 := hid (show Rf w20 b all (.ok () rr.tail) from hd); clear hd o4 T; obtain ⟨c0, c1, c2, c3, c4, cz⟩ := boxN5 HY20.out
     go_wp2_with ((refine wpList_store_box (o := ⟨none, _, _, _, _, _⟩) rfl 35 (.tmp 4) (.tmp 114) (by rfl) B [.int .u8 0, .int .i64 0, .string ⟨#[]⟩, .slice none 0 0, .slice none 0 0] [.int .u8 5, .int .i64 0, .string ⟨#[]⟩, .slice none 0 0, .slice aL rs.length cL] (by rfl) (by rfl) HR20.out (by rfl) (by kernel_rfl) (by intro u hu; simp at hu; rcases hu with rfl | rfl | rfl | rfl | rfl <;> rfl) ?_; intro w9 k1 k2))
     clear c0 c1 c2 c3 c4 cz; obtain ⟨y0, y1, y2, y3, y4, -⟩ := boxN5 k1; have hd9 := HD20.out.only k2 (fun k hk e => by have e : k = B := e; omega); have hag : ∀ x q, total = .ok x q → aggP B valC w9 x (.agg #[.int .u8 5, .int .i64 0, .string ⟨#[]⟩, .slice none 0 0, .slice aL rs.length cL]) := fun x q e => by
      rw [HE.out, HTL.out] at e
      injection e with e1 e2; subst e1
      exact ⟨_, rfl, listC (CellAt.weaken (fun q _ h => by have h : Y + 1 ≤ q := h; show B ≤ q; omega) _ _ (OwnRow.cell (by rw [← HK.out]; exact HW20.out.only k2 (fun k h1 h2 e => by have e : k = B := e; omega))))⟩
     exact bodyPost_ret (v := .agg #[.int .u8 5, .int .i64 0, .string ⟨#[]⟩, .slice none 0 0, .slice aL rs.length cL]) (by simp [results, Tryz.results95, go_sem, y0, y1, y2, y3, y4]) rfl (HPP.out w9 _ _ hd9 ⟨5, 0, [], none, 0, 0, aL, rs.length, cL, rfl⟩ (by rw [HE.out, HTL.out]; rfl) hag (HO20.out.trans' k2 (fun q hq e => by have e : q = B := e; have := HWB.out; omega)))
   ·have t1 : ((e0 : Int) == 0) = false := by simp; omega
    have htl := HLS.out.bad _ _ rfl; have HTL := hid htl; clear htl he0; have HY20 := HYr; have HR20 := HRr; have HO20 := HOr; have HD20 := HDr; have HW20 := HOWN; obtain ⟨c0, c1, c2, c3, c4, fz⟩ := boxN5 HY20.out
    go_wp2_with ((refine wpList_store_box (o := ⟨none, _, _, _, _, _⟩) rfl 35 (.tmp 4) (.tmp 114) (by rfl) B [.int .u8 0, .int .i64 0, .string ⟨#[]⟩, .slice none 0 0, .slice none 0 0] [.int .u8 5, .int .i64 0, .string ⟨#[]⟩, .slice none 0 0, .slice aL rs.length cL] (by rfl) (by rfl) HR20.out (by rfl) (by kernel_rfl) (by intro u hu; simp at hu; rcases hu with rfl | rfl | rfl | rfl | rfl <;> rfl) ?_; intro w9 k1 k2))
    clear c0 c1 c2 c3 c4 ce cz fz; obtain ⟨y0, y1, y2, y3, y4, -⟩ := boxN5 k1; have hd9 := HD20.out.only k2 (fun k hk e => by have e : k = B := e; omega); have hag : ∀ x q, total = .ok x q → aggP B valC w9 x (.agg #[.int .u8 5, .int .i64 0, .string ⟨#[]⟩, .slice none 0 0, .slice aL rs.length cL]) := fun x q e => by
     rw [HE.out, HTL.out] at e; cases e
    exact bodyPost_ret (v := .agg #[.int .u8 5, .int .i64 0, .string ⟨#[]⟩, .slice none 0 0, .slice aL rs.length cL]) (by simp [results, Tryz.results95, go_sem, y0, y1, y2, y3, y4]) rfl (HPP.out w9 _ _ hd9 ⟨5, 0, [], none, 0, 0, aL, rs.length, cL, rfl⟩ (by rw [HE.out, HTL.out]; rfl) hag (HO20.out.trans' k2 (fun q hq e => by have e : q = B := e; have := HWB.out; omega)))
 have HNL := hid (show ¬ isT [91] (t :: r') = true from by have := HBT.out; rw [show isT [91] (t :: r') = false from this]; decide); rw [if_neg (by decide)] at T
 go_wp2_with fail
 refine T.out.mono ?_
 rintro e w6 ⟨rfl, hd, o4⟩; clear HBT; have HX6 := hid (kB o4 HX5.out (by omega)); have HR6 := hid (kB o4 HR5.out (by omega)); have HO6 := hid (HO5.out.trans' o4 (fun q hq e => by exact e)); have HD6 := hid (hd); clear HX5 HR5 HO5 HD5; clear o4 hd T; have T := hid (fEat_any b all (.ok () (t :: r')) [123] w6 HD6.out); unfold tookF at T; obtain ⟨bb, hb⟩ := eX (tst (.ok () (t :: r') : PR Unit) (isT [123])); rw [hb] at T; have HBT := hid hb; clear hb
 cases bb
 rotate_left
 ·have hyes : isT [123] (t :: r') = true := HBT.out; have he : total = (anyP (pairP f) [125] (r'.length + 1) [] r').bind fun vs r1 => .ok (.mk 6 0 [] (vs.map (·.1)) (vs.map (·.2))) r1 := by rw [← HT0.out, valueB_cons, if_neg HNK2.out, if_neg HNK3.out, if_neg HNT.out, if_neg HNF.out, if_neg HNN.out, if_neg HNK1.out, if_neg HNV.out, if_neg HNL.out, if_pos hyes]
  have HE := hid he; clear he; rw [if_pos rfl] at T
  go_wp2_with fail
  refine T.out.mono ?_
  rintro e w7 ⟨rfl, hd, o4⟩; clear hyes; have HX7 := hid (kB o4 HX6.out (by omega)); have HR7 := hid (kB o4 HR6.out (by omega)); have HO7 := hid (HO6.out.trans' o4 (fun q hq e => by exact e)); have HD7 := hid ((show Rf w7 b all (.ok () r') from hd)); clear HX6 HR6 HO6 HD6; clear o4 hd T HBT; obtain ⟨Y, hY⟩ := eX (w7.heap.size); have hXY : X < Y := by rw [← hY]; exact (gE HX7.out).1
  obtain ⟨w8, hw9⟩ := eX (w7.alloc (.cells #[.int .u8 6, .int .i64 0, .string ⟨#[]⟩, .slice none 0 0, .slice none 0 0] 35)); have hy9 : w8.heap[Y]? = some (.cells #[.int .u8 6, .int .i64 0, .string ⟨#[]⟩, .slice none 0 0, .slice none 0 0] 35 (0, 0)) := by rw [← hw9, ← hY]; exact heap_new _ _
  have oa : Only (fun _ => False) w7 w8 := by rw [← hw9]; exact (Only.refl _ _).alloc _
  have HW9 := hid hw9; have HYY := hid hY; have HY9 := hid hy9; clear hw9 hY hy9; have HX8 := hid (kB oa HX7.out (fun h => h)); have HR8 := hid (kB oa HR7.out (fun h => h)); have HO8 := hid (HO7.out.trans' oa (fun q hq e => by exact e.elim)); have HD8 := hid (HD7.out.still oa); clear HX7 HR7 HO7 HD7; clear oa; obtain ⟨tl, htl⟩ := eX (anyP (pairP f) [125] (r'.length + 1) [] r'); have hls := LS.start (p := pairP f) (c := [125]) false (K := fun acc => ([] : List (List Cell)) = acc.map (fun p => [strC p.1]) ∧ ([] : List (List Cell)) = acc.map (fun p => valC p.2)) ⟨rfl, rfl⟩ (σ := .ok () r') (fun u r e => by injection e with _ e; subst e; exact HD8.out.few.1); have hls : LS (pairP f) [125] tl false 0 (fun acc => ([] : List (List Cell)) = acc.map (fun p => [strC p.1]) ∧ ([] : List (List Cell)) = acc.map (fun p => valC p.2)) (.ok () r') := by rw [← htl]; exact hls
  have HI := hid (show OF w Y B b all f tl w8 from ⟨.ok () r', [], [], .slice none 0 0, .slice none 0 0, HY9.out, OwnTwo.nil _ _ _ _ _ _, rfl, HD8.out, HR8.out, HO8.out, hls⟩); rw [htl] at HE; clear hls htl
  go_upto_region 28 with (fail)
  rw [HYY.out, HW9.out]; clear HW9 HYY HY9 HX8 HR8 HD8 HO8
  go_loopw [] (fun wr => Hid (OF w Y B b all f tl wr)) (fun wr => muF wr b all)
  case atStart => exact HI
  case round =>
   obtain ⟨σ, ks, rs, vK, vL, hy, hown, hkr, hd, hrb, hon, hls⟩ := hrel.out; obtain ⟨aK, cK, eK, gK1, gK2, gK3⟩ := hown.left.form; obtain ⟨aL, cL, eL, fL1, fL2, fL3⟩ := hown.right.form; rw [hkr] at eK gK1; subst eL; subst eK; obtain ⟨n0, hn0⟩ := eX (rs.length); rw [hn0] at hkr gK1 gK3 fL1 fL3 hy hown hls; have fL2n : cL ≤ 9223372036854775807 := by unfold maxLen at fL2; omega
   have gK2n : cK ≤ 9223372036854775807 := by unfold maxLen at gK2; omega
   have HYr := hid hy; have HOWN := hid hown; have HDr := hid hd; have HRr := hid hrb; have HOr := hid hon; have HLS := hid hls; have HFL := hid fL3; have HFK := hid gK3; have HKR := hid hkr; have HN0 := hid hn0; have hYr : Y < wr.heap.size := (gE hy).1; obtain ⟨e0, ce, cz, hσ⟩ := hd.err; clear hy hown hd hrb hon hls fL2 fL3 gK2 gK3 hrel HI hkr hn0
   rcases hσ with ⟨rr, rfl, rfl⟩ | ⟨ab, rfl, he0⟩
   ·have T := hid (fEat_any b all (.ok () rr) [125] wr HDr.out); unfold tookF at T; obtain ⟨bb, hb⟩ := eX (tst (.ok () rr : PR Unit) (isT [125])); rw [hb] at T; have HBT := hid (show isT [125] rr = bb from hb); clear hb
    cases bb
    ·-- one more
     rw [if_neg (by decide)] at T
     go_wp2_with fail
     refine T.out.mono ?_
     rintro e w20 ⟨rfl, hd, o4⟩; clear ce cz; have hY20 : Y < w20.heap.size := Nat.lt_of_lt_of_le hYr o4.size; have HY20 := hid (kB o4 HYr.out (by omega)); have HB20 := hid (kB o4 HRr.out (by omega)); have HO20 := hid (HOr.out.trans o4); have HW20 := hid (HOWN.out.only o4 (fun k h1 h2 e => by have e : k = b := e; omega)); have HFK2 := hid (show ∀ k, (Value.slice aK n0 cK).ownBlock = some k → Y + 1 ≤ k ∧ k < w20.heap.size from fun k hk => ⟨(HFK.out k hk).1, Nat.lt_of_lt_of_le (HFK.out k hk).2 o4.size⟩); have H20 := hid (show Rf w20 b all (.ok () rr) from hd); have HFEW := hid (show n0 + 1 ≤ 1000000 by have h1 := (HLS.out.ok _ _ rfl).1; have h2 := HDr.out.few.2; omega); clear hd o4 T
     go_upto_region 29 with (fail)
     refine wp_region_stepsM 7 (by kernel_rfl) rfl (by kernel_rfl) [some 129, some 130, some 131, some 132, some 133, some 134, some 135] rfl rfl 3 5 (fun q => q = b) (fun q => (Value.slice aK n0 cK).ownBlock = some q) [4, 5, 6, 7] (by kernel_rfl) [2] (by kernel_rfl) (by decide) (by decide) (.inr ⟨by decide, by decide⟩) [(fun v _ => v = (.pointer (some ⟨Y, 3, none⟩))), (fun v _ => v = (.slice aK n0 cK)), (fun v _ => v = (.pointer (some ⟨b, 0, none⟩))), (fun v w1 => ∃ s : List UInt8, v = .string ⟨s.toArray⟩ ∧ Rf w1 b all (nameP rr).unit ∧ ∀ x q, nameP rr = .ok x q → s = x), (fun v w1 => ∃ (g : Nat) (s : List UInt8), v = .slice (some ⟨g, 0, none⟩) 1 1 ∧ w20.heap.size ≤ g ∧ g < w1.heap.size ∧ w1.rangeAt g 0 [.string ⟨s.toArray⟩] ∧ Rf w1 b all (nameP rr).unit ∧ ∀ x q, nameP rr = .ok x q → s = x), (fun v w1 => ∃ s : List UInt8, OwnTwo w1 (Y + 1) 9 35 1 5 v (.slice aL n0 cL) (ks ++ [[strC s]]) rs ∧ (∀ q, v.ownBlock = some q → (Value.slice aK n0 cK).ownBlock = some q ∨ w20.heap.size ≤ q) ∧ Rf w1 b all (nameP rr).unit ∧ ∀ x q, nameP rr = .ok x q → s = x), (fun v _ => v = (.pointer (some ⟨Y, 3, none⟩)))] rfl ⟨?_, ?_, ?_, ?_, ?_, ?_, ?_, trivial⟩ _ rfl ⟨?_, ?_, ?_, ?_, ?_, ?_, ?_, trivial⟩ ?_
     iterate 3 exact Stable.is _ _
     ·intro v w1 w2 h ho; have ho : Only (fun q => (Value.slice aK n0 cK).ownBlock = some q) w1 w2 := ho; exact (by obtain ⟨s, e1, e3, e4⟩ := h; exact ⟨s, e1, e3.only ho (fun k hk h => by have := (HFK2.out k h).1; omega), e4⟩)
     ·intro v w1 w2 h ho; have ho : Only (fun q => (Value.slice aK n0 cK).ownBlock = some q) w1 w2 := ho; exact (by obtain ⟨g, s, e1, e2, e3, e5, e7, e8⟩ := h; have hng : ¬ (Value.slice aK n0 cK).ownBlock = some g := fun hk => (by have := (HFK2.out g hk).2; omega); exact ⟨g, s, e1, e2, Nat.lt_of_lt_of_le e3 ho.size, range_keep e5 e3 ho hng, e7.only ho (fun k hk h => by have := (HFK2.out k h).1; omega), e8⟩)
     ·intro v w1 w2 h ho; have ho : Only (fun _ => False) w1 w2 := ho; exact (by obtain ⟨s, e1, e2, e3, e4⟩ := h; exact ⟨s, e1.only ho (fun _ _ _ h => h), e2, e3.still ho, e4⟩)
     ·exact Stable.is _ _
     ·intro x wx ox hN TT HTT; have ox : Only (fun q => (fun q => q = b) q ∨ (fun q => (Value.slice aK n0 cK).ownBlock = some q) q) _ wx := ox; unfold StepTo; simp only [putAll, Act.put, zA, zB, zC]; clear hN
      go_wp2_with fail
      exact ⟨rfl, _, rfl, HTT.out _ _ rfl oR⟩
     ·intro x wx ox hN TT HTT; have ox : Only (fun q => (fun q => q = b) q ∨ (fun q => (Value.slice aK n0 cK).ownBlock = some q) q) _ wx := ox; unfold StepTo; simp only [putAll, Act.put, zA, zB, zC, eI (hN.1 rfl)]; clear hN; have hbx := (ox.block _ hY20 (fun h => by rcases h with h | h; omega; (have := (HFK2.out _ h).1; omega))).trans HY20.out; obtain ⟨c0, c1, c2, c3, c4, -⟩ := boxN5 hbx; clear hbx
      go_wp2_with fail
      exact ⟨rfl, _, rfl, HTT.out _ _ rfl oR⟩
     ·intro x wx ox hN TT HTT; have ox : Only (fun _ => False) _ wx := ox; unfold StepTo; simp only [putAll, Act.put, zA, zB, zC]; clear hN
      go_wp2_with fail
      exact ⟨rfl, _, rfl, HTT.out _ _ rfl oR⟩
     ·intro x wx ox hN TT HTT; have ox : Only (fun _ => False) _ wx := ox; unfold StepTo; simp only [putAll, Act.put, zA, zB, zC, eI (hN.1 rfl)]; clear hN; have ht := fName_any b all (.ok () rr) wx (H20.out.still (((Only.refl _ w20).drew).trans ox)); have HT := hid ht; clear ht
      go_wp2_with fail
      refine HT.out.mono ?_
      rintro e w6 ⟨v6, rfl, ⟨s, rfl⟩, h6, hv6, o6⟩; have H6 := hid (show Rf w6 b all (nameP rr).unit from h6); have O6 := hid o6; have HV6 := hid (show ∀ x q, nameP rr = .ok x q → s = x from fun x q e => strF_inj (hv6 x q e)); clear h6 o6 hv6
      go_wp2_with fail
      exact ⟨rfl, _, rfl, HTT.out _ _ (⟨s, rfl, H6.out, HV6.out⟩) (O6.out)⟩
     ·intro x wx ox hN TT HTT; have ox : Only (fun q => (fun q => q = b) q ∨ (fun q => (Value.slice aK n0 cK).ownBlock = some q) q) _ wx := ox; have r132 : (fun (v : Value) (w1 : World) => ∃ s : List UInt8, v = .string ⟨s.toArray⟩ ∧ Rf w1 b all (nameP rr).unit ∧ ∀ x q, nameP rr = .ok x q → s = x) (x 3) wx := hN.1 rfl; unfold StepTo; simp only [putAll, Act.put, zA, zB, zC]; clear hN; obtain ⟨s, e1, e3, e4⟩ := r132; simp only [e1]; have hn := heap_new wx (.cells #[.string ⟨s.toArray⟩] 9); have on := (Only.refl (fun _ => False) wx).alloc (.cells #[.string ⟨s.toArray⟩] 9); have hgl : w20.heap.size ≤ wx.heap.size := ox.size; have H3 := hid e3; have HNB := hid hn; have ON := hid on; have HGL2 := hid hgl; have H4 := hid e4; clear e1 e3 hn on hgl e4
      go_wp2_with fail
      exact ⟨rfl, _, rfl, HTT.out _ _ (⟨wx.heap.size, s, rfl, HGL2.out, by simp, range_of_block HNB.out, H3.out.still ON.out, H4.out⟩) (ON.out)⟩
     ·intro x wx ox hN TT HTT; have ox : Only (fun q => q = b) _ wx := ox; have r133 : (fun (v : Value) (w1 : World) => ∃ (g : Nat) (s : List UInt8), v = .slice (some ⟨g, 0, none⟩) 1 1 ∧ w20.heap.size ≤ g ∧ g < w1.heap.size ∧ w1.rangeAt g 0 [.string ⟨s.toArray⟩] ∧ Rf w1 b all (nameP rr).unit ∧ ∀ x q, nameP rr = .ok x q → s = x) (x 4) wx := hN.2.1 rfl; have r132 : (fun (v : Value) (w1 : World) => ∃ s : List UInt8, v = .string ⟨s.toArray⟩ ∧ Rf w1 b all (nameP rr).unit ∧ ∀ x q, nameP rr = .ok x q → s = x) (x 3) wx := hN.2.2.1 rfl; unfold StepTo; simp only [putAll, Act.put, zA, zB, zC, eI (hN.1 rfl)]; clear hN; obtain ⟨g, s, e1, e2, e3, e5, e7, e8⟩ := r133; simp only [e1]; have htw := (HW20.out.only (((Only.refl _ w20).drew).trans ox) (fun k h1 h2 e => by omega)).swap; obtain ⟨xs, p1, p2⟩ := htw.l; have hys : ∀ j u, [Value.string ⟨s.toArray⟩][j]? = some u → wx.cell? ((⟨g, 0, none⟩ : Addr).add j) = some u := fun j u hu => by rw [addr_add]; exact e5 j u hu
      have hsl : w20.heap.size ≤ wx.heap.size := ox.size; have HTW := hid htw; have HP1 := hid p1; have HP2 := hid p2; have HYS := hid hys; have HSL := hid hsl; have H6 := hid e7; have H8 := hid e8; clear p1 p2 hys hsl e7 e5 e1 htw e8; rw [HKR.out] at HP1
      go_wp2_with ((refine wpList_append_own2 (o := ⟨some 134, _, _, _, _, _⟩) rfl (.tmp 130) (.tmp 133) 32 9 (by rfl) Tryz.underlying32 infoStrF rfl (by decide) (Y + 1) (.slice aK n0 cK) n0 1 1 xs [.string ⟨s.toArray⟩] ⟨g, 0, none⟩ (by rfl) (by rfl) HP1.out (by rfl) HYS.out (by intro u hu; simp at hu; subst hu; rfl) (by have := HFEW.out; unfold maxLen; omega) (by have := HFEW.out; omega) (by have := HSL.out; omega) ?_; intro v' w9 q1 q2 q3))
      have hp1 := HP1.out; have hp2 := HP2.out; have hrow := OwnTwo.append (r := [strC s]) HTW.out (by rw [HKR.out]; exact hp1) hp2 rfl (CellsAt.lit rfl (CellsAt.nil _ _)) (by rw [HKR.out]; exact q1) q2 q3; exact ⟨rfl, _, rfl, HTT.out _ _ (⟨s, hrow.swap, fun q hq => (q3 q hq).imp id (fun h => Nat.le_trans HSL.out h), H6.out.only q2 (fun k hk h => by have := (HFK2.out k h).1; omega), H8.out⟩) (q2)⟩
     ·intro x wx ox hN TT HTT; have ox : Only (fun q => (fun q => q = b) q ∨ (fun q => (Value.slice aK n0 cK).ownBlock = some q) q) _ wx := ox; have r132 : (fun (v : Value) (w1 : World) => ∃ s : List UInt8, v = .string ⟨s.toArray⟩ ∧ Rf w1 b all (nameP rr).unit ∧ ∀ x q, nameP rr = .ok x q → s = x) (x 3) wx := hN.2.2.2.1 rfl; have r133 : (fun (v : Value) (w1 : World) => ∃ (g : Nat) (s : List UInt8), v = .slice (some ⟨g, 0, none⟩) 1 1 ∧ w20.heap.size ≤ g ∧ g < w1.heap.size ∧ w1.rangeAt g 0 [.string ⟨s.toArray⟩] ∧ Rf w1 b all (nameP rr).unit ∧ ∀ x q, nameP rr = .ok x q → s = x) (x 4) wx := hN.2.2.2.2.1 rfl; have r134 : (fun (v : Value) (w1 : World) => ∃ s : List UInt8, OwnTwo w1 (Y + 1) 9 35 1 5 v (.slice aL n0 cL) (ks ++ [[strC s]]) rs ∧ (∀ q, v.ownBlock = some q → (Value.slice aK n0 cK).ownBlock = some q ∨ w20.heap.size ≤ q) ∧ Rf w1 b all (nameP rr).unit ∧ ∀ x q, nameP rr = .ok x q → s = x) (x 5) wx := hN.2.2.2.2.2.1 rfl; unfold StepTo; simp only [putAll, Act.put, zA, zB, zC, eI (hN.1 rfl), eI (hN.2.1 rfl), eI (hN.2.2.1 rfl)]; clear hN
      go_wp2_with fail
      exact ⟨rfl, _, rfl, HTT.out _ _ rfl oR⟩
     intro xb wxb oxb hN; have oxb : Only (fun q => (fun q => q = b) q ∨ (fun q => (Value.slice aK n0 cK).ownBlock = some q) q) _ wxb := oxb; have r132 : (fun (v : Value) (w1 : World) => ∃ s : List UInt8, v = .string ⟨s.toArray⟩ ∧ Rf w1 b all (nameP rr).unit ∧ ∀ x q, nameP rr = .ok x q → s = x) (xb 3) wxb := hN.2.2.2.1; have r133 : (fun (v : Value) (w1 : World) => ∃ (g : Nat) (s : List UInt8), v = .slice (some ⟨g, 0, none⟩) 1 1 ∧ w20.heap.size ≤ g ∧ g < w1.heap.size ∧ w1.rangeAt g 0 [.string ⟨s.toArray⟩] ∧ Rf w1 b all (nameP rr).unit ∧ ∀ x q, nameP rr = .ok x q → s = x) (xb 4) wxb := hN.2.2.2.2.1; have r134 : (fun (v : Value) (w1 : World) => ∃ s : List UInt8, OwnTwo w1 (Y + 1) 9 35 1 5 v (.slice aL n0 cL) (ks ++ [[strC s]]) rs ∧ (∀ q, v.ownBlock = some q → (Value.slice aK n0 cK).ownBlock = some q ∨ w20.heap.size ≤ q) ∧ Rf w1 b all (nameP rr).unit ∧ ∀ x q, nameP rr = .ok x q → s = x) (xb 5) wxb := hN.2.2.2.2.2.1; simp only [putAll, Act.put, zA, zB, zC, eI hN.1, eI hN.2.1, eI hN.2.2.1, eI hN.2.2.2.2.2.2.1]; clear hN; obtain ⟨s, q1, q2, q5, hs⟩ := r134; obtain ⟨aK', cK', eK', gL1, gL2, gL3⟩ := q1.left.form; rw [List.length_append, List.length_singleton, HKR.out] at eK' gL1; rw [eK'] at q1 q2 gL3 ⊢; have gK2n' : cK' ≤ 9223372036854775807 := by unfold maxLen at gL2; omega
     have hYb := (oxb.block _ hY20 (fun h => by rcases h with h | h; omega; (have := (HFK2.out _ h).1; omega))).trans HY20.out; have hBb := (oxb.block _ (by omega : B < w20.heap.size) (fun h => by rcases h with h | h; omega; (have := (HFK2.out _ h).1; omega))).trans HB20.out; obtain ⟨c0, c1, c2, c3, c4, hfz⟩ := boxN5 hYb; have hY6 := heap_set (o := 3) hYb (.slice aK' (n0 + 1) cK'); have hY6 : (wxb.setCell ⟨Y, 3, none⟩ (.slice aK' (n0 + 1) cK')).heap[Y]? = some (.cells #[.int .u8 6, .int .i64 0, .string ⟨#[]⟩, .slice aK' (n0 + 1) cK', .slice aL n0 cL] 35 (0, 0)) := by simpa using hY6
     have hB6 := heap_set_ne (a := ⟨Y, 3, none⟩) hBb (by show B ≠ Y; omega) (.slice aK' (n0 + 1) cK'); have o6 := (Only.refl (fun k => k = Y) wxb).setCell (p := ⟨Y, 3, none⟩) (.inl rfl) (.slice aK' (n0 + 1) cK'); have hrd6 := q5.only o6 (fun k hk e => by omega); have hob : Only (fun q => q = b ∨ q = Y ∨ (Value.slice aK n0 cK).ownBlock = some q) w20 (wxb.setCell ⟨Y, 3, none⟩ (.slice aK' (n0 + 1) cK')) := ((((Only.refl _ w20).drew).trans' oxb (fun q _ h => h.imp id .inr)).trans' o6 (fun q _ h => .inr (.inl h))); have hW6 := q1.only o6 (fun k h1 h2 e => by omega); have hO6 : Only (fun k => k = b) w (wxb.setCell ⟨Y, 3, none⟩ (.slice aK' (n0 + 1) cK')) := HO20.out.trans' hob (fun q hq h => by rcases h with h | h | h; exact h; (have := HWB.out; omega); (have := (HFK2.out q h).1; have := HWB.out; omega)); obtain ⟨w21, hw21⟩ := eX (wxb.setCell ⟨Y, 3, none⟩ (.slice aK' (n0 + 1) cK')); rw [hw21] at hY6 hB6 hrd6 hW6 hO6; have HY21 := hid hY6; have HB21 := hid hB6; have H21 := hid hrd6; have HW21 := hid hW6; have HO21 := hid hO6; have HEW := hid hw21; have HS21 := hid hs; clear hY6 hB6 o6 hrd6 hob hW6 hO6 hYb hBb q1 q2 q5 gL2 gL3 gL1 eK' oxb HFK2 HW20 HY20 HB20 H20 HO20 hw21 hs HFK hY20
     go_upto_region 30 with (fail)
     rw [HEW.out]; clear HEW c0 c1 c2 c3 c4 hfz; have J2 := hid (fMust_any b all (nameP rr).unit [58] w21 H21.out)
     go_wp2_with fail
     refine J2.out.mono ?_
     rintro e w22 ⟨rfl, hd, o4⟩; obtain ⟨σ3, hσ3⟩ := eX (((nameP rr).unit.bind fun _ => wantP [58]).unit); obtain ⟨hpj1, hpj2⟩ := pair_joint f rr; rw [hσ3] at hd hpj1 hpj2; have HPJ1 := hid hpj1; have HPJ2 := hid hpj2; have HY20 := hid (kB o4 HY21.out (by omega)); have HR20 := hid (kB o4 HB21.out (by omega)); have HO20 := hid (HO21.out.trans o4); have HW20 := hid (HW21.out.only o4 (fun k h1 h2 e => by have e : k = b := e; omega)); have HF20 := hid (show ∀ k, (Value.slice aL n0 cL).ownBlock = some k → Y + 1 ≤ k ∧ k < w22.heap.size from fun k hk => (by obtain ⟨_, _, e, _, _, h3⟩ := HW20.out.right.form; exact h3 k hk)); have HG20 := hid (show ∀ k, (Value.slice aK' (n0 + 1) cK').ownBlock = some k → Y + 1 ≤ k ∧ k < w22.heap.size from fun k hk => (by obtain ⟨_, _, e, _, _, h3⟩ := HW20.out.left.form; exact h3 k hk)); have J := hid (IH.out σ3 w22 hd); clear hd o4 J2 hpj1 hpj2 hσ3 HY21 HB21 HO21 HW21 H21
     go_wp2_with fail
     refine J.out.mono ?_
     rintro e w21 ⟨v, rfl, ⟨kd, nm, sv, a1, l1, p1, a2, l2, p2, rfl⟩, hd, hv, o4⟩; have hsz : w22.heap.size ≤ w21.heap.size := o4.size; have hvc : ∀ x q, pairP f rr = .ok x q → CellsAt w21 (fun q => w22.heap.size ≤ q ∧ q < w21.heap.size) (valC x.2) [.int .u8 (kd : Int), .int .i64 nm, .string ⟨sv.toArray⟩, .slice a1 l1 p1, .slice a2 l2 p2] := fun x q e => CellsAt.weaken (fun q hq h => ⟨h, hq⟩) _ _ (aggF_cells (hv x.2 q (HPJ2.out x q e).2))
     obtain ⟨row, hrow, hrx⟩ := elem_row (P := pairP f rr) (enc := fun x => valC x.2) (ys := [.int .u8 (kd : Int), .int .i64 nm, .string ⟨sv.toArray⟩, .slice a1 l1 p1, .slice a2 l2 p2]) hvc (by intro u hu; simp at hu; rcases hu with rfl | rfl | rfl | rfl | rfl <;> rfl); rw [HPJ1.out] at hd; obtain ⟨X2, hX2⟩ := eX (w21.heap.size); obtain ⟨wv, hw22⟩ := eX (w21.alloc (.cells #[.int .u8 (kd : Int), .int .i64 nm, .string ⟨sv.toArray⟩, .slice a1 l1 p1, .slice a2 l2 p2] 35)); have ox : Only (fun _ => False) w21 wv := by rw [← hw22]; exact (Only.refl _ _).alloc _
     have hx2 : wv.heap[X2]? = some (.cells #[.int .u8 (kd : Int), .int .i64 nm, .string ⟨sv.toArray⟩, .slice a1 l1 p1, .slice a2 l2 p2] 35 (0, 0)) := by rw [← hw22, ← hX2]; exact heap_new _ _
     obtain ⟨G, hG⟩ := eX (wv.heap.size); obtain ⟨w23, hw23⟩ := eX (wv.alloc (.cells #[.int .u8 (kd : Int), .int .i64 nm, .string ⟨sv.toArray⟩, .slice a1 l1 p1, .slice a2 l2 p2] 35)); have og : Only (fun _ => False) wv w23 := by rw [← hw23]; exact (Only.refl _ _).alloc _
     have hgg : w23.heap[G]? = some (.cells #[.int .u8 (kd : Int), .int .i64 nm, .string ⟨sv.toArray⟩, .slice a1 l1 p1, .slice a2 l2 p2] 35 (0, 0)) := by rw [← hw23, ← hG]; exact heap_new _ _
     have o13 : Only (fun _ => False) w21 w23 := ox.trans og; have o03 : Only (fun k => k = b) w22 w23 := o4.trans' o13 (fun _ _ h => h.elim); have hGs : G + 1 = w23.heap.size := by rw [← hw23, World.size_alloc, hG]
     have hY22 : Y < w22.heap.size := (gE HY20.out).1; have hGY : Y + 1 ≤ G := by have h2 := ox.size; omega
     have HY22 := hid (((o4.trans' ox (fun _ _ h => h.elim)).block Y (gE HY20.out).1 (by omega)).trans HY20.out); have HY23 := hid (kB o03 HY20.out (by omega)); have HR23 := hid (kB o03 HR20.out (by omega)); have HO23 := hid (HO20.out.trans o03); have HD23 := hid (show Rf w23 b all (pairP f rr).unit from hd.still o13); have HW23 := hid (HW20.out.only o03 (fun k h1 h2 e => by have e : k = b := e; omega)); have HROW := hid (show CellsAt w23 (fun q => (Y + 1 ≤ q ∧ (Value.slice aL n0 cL).ownBlock ≠ some q ∧ q < w23.heap.size) ∧ (Value.slice aK' (n0 + 1) cK').ownBlock ≠ some q) row [.int .u8 (kd : Int), .int .i64 nm, .string ⟨sv.toArray⟩, .slice a1 l1 p1, .slice a2 l2 p2] from CellsAt.weaken (fun q hq h => ⟨⟨by omega, fun hvv => by have := (HF20.out q hvv).2; omega, hq⟩, fun hvv => by have := (HG20.out q hvv).2; omega⟩) _ _ (CellsAt.only o13 (fun _ _ h => h) _ _ hrow)); have HRX := hid hrx; have HX2 := hid hX2; have HW22 := hid hw22; have HG := hid hG; have HWG := hid hw23; have HXX := hid hx2; have HGG := hid hgg; have HGS := hid hGs; clear hrx hX2 hw22 hG hw23 hx2 hgg ox og o13 o03 hd hv hvc hrow o4 J hGs
     go_upto_region 32 with (fail)
     rw [HX2.out, HW22.out]; clear HX2 HW22; obtain ⟨c0, c1, c2, c3, c4, cz⟩ := boxN5 HY22.out; obtain ⟨x0, x1, x2, x3, x4, -⟩ := boxN5 HXX.out; have hys : ∀ j u, ([.int .u8 (kd : Int), .int .i64 nm, .string ⟨sv.toArray⟩, .slice a1 l1 p1, .slice a2 l2 p2] : List Value)[j]? = some u → w23.cell? ((⟨G, 0, none⟩ : Addr).add j) = some u := fun j u hu => by rw [addr_add]; exact range_of_block (cs := [.int .u8 (kd : Int), .int .i64 nm, .string ⟨sv.toArray⟩, .slice a1 l1 p1, .slice a2 l2 p2]) HGG.out j u hu
     have hone : ∀ u ∈ ([.int .u8 (kd : Int), .int .i64 nm, .string ⟨sv.toArray⟩, .slice a1 l1 p1, .slice a2 l2 p2] : List Value), u.oneCell' = true := by intro u hu; simp at hu; rcases hu with rfl | rfl | rfl | rfl | rfl <;> rfl
     obtain ⟨xs, p1', p2'⟩ := HW23.out.l; rw [HN0.out] at p1'; have HYS := hid hys; have HONE := hid hone; have HP1 := hid p1'; have HP2 := hid p2'; clear hys hone p1' p2'
     go_wp2_with ((rw [HG.out, HWG.out]; refine wpList_append_own2 (o := ⟨some 145, _, _, _, _, _⟩) rfl (.tmp 142) (.tmp 144) 33 35 (by rfl) Tryz.underlying33 infoValF rfl (by decide) (Y + 1) (.slice aL n0 cL) n0 1 1 xs [.int .u8 (kd : Int), .int .i64 nm, .string ⟨sv.toArray⟩, .slice a1 l1 p1, .slice a2 l2 p2] ⟨G, 0, none⟩ (by rfl) (by rfl) HP1.out (by rfl) HYS.out HONE.out (by have := HFEW.out; unfold maxLen; omega) (by have := HFEW.out; omega) (by have := HGS.out; omega) ?_; intro v' w24 q1 q2 q3; obtain ⟨aL', cL', eL', gL1, gL2, -⟩ := own_form q1; subst eL'; clear c0 c1 c2 c3 c4 cz x0 x1 x2 x3 x4; obtain ⟨c0, c1, c2, c3, c4, cz⟩ := boxN5 ((q2.block Y (gE HY23.out).1 (fun e => by have := (HF20.out Y e).1; omega)).trans HY23.out)))
     have hF20 := HF20.out; have hrow2 := OwnTwo.append HW23.out (by rw [HN0.out]; exact HP1.out) HP2.out rfl HROW.out (by rw [HN0.out]; exact q1) q2 q3; have hyr := (q2.block Y (gE HY23.out).1 (fun e => by have := (hF20 Y e).1; omega)).trans HY23.out; have hrr := (q2.block B (gE HR23.out).1 (fun e => by have := (hF20 B e).1; omega)).trans HR23.out; have hdd := HD23.out.only q2 (fun k hk h => by have := (hF20 k h).1; omega); have hoo : Only (fun k => k = b) w w24 := HO23.out.trans' q2 (fun q hq h => by have := (hF20 q h).1; have := HWB.out; omega); have oy : Only (fun k => k = Y) w24 (w24.setCell ⟨Y, 4, none⟩ (.slice aL' (n0 + 1) cL')) := (Only.refl (fun k => k = Y) w24).setCell (p := ⟨Y, 4, none⟩) (.inl rfl) _; have hy6 := heap_set (o := 4) hyr (.slice aL' (n0 + 1) cL')
     have hlss := HLS.out.next (K' := fun acc => ks ++ [[strC s]] = acc.map (fun p => [strC p.1]) ∧ rs ++ [row] = acc.map (fun p => valC p.2)) (pairP_takes HTK.out) HDr.out.few.2 (.inr HBT.out) (fun acc x q h1 h2 => by
      obtain ⟨q1', hq1'⟩ := (HPJ2.out x q h2).1
      rw [h1.1, h1.2, HRX.out x q h2, HS21.out _ _ hq1', List.map_append, List.map_append]; exact ⟨rfl, rfl⟩)
     have hmu : muF (w24.setCell ⟨Y, 4, none⟩ (.slice aL' (n0 + 1) cL')) b all < muF wr b all := by
      rw [muF_ok HDr.out]; have hd9 := hdd.only oy (fun k hk e => by have e : k = Y := e; omega)
      cases hq : pairP f rr with
      | bad p q => rw [hq] at hd9; rw [muF_bad hd9]; omega
      | ok x r2 => rw [hq] at hd9; rw [muF_ok (u := ()) hd9]; have := pairP_takes HTK.out _ _ _ hq; omega
     have hnew : OF w Y B b all f tl (w24.setCell ⟨Y, 4, none⟩ (.slice aL' (n0 + 1) cL')) := ⟨(pairP f rr).unit, ks ++ [[strC s]], rs ++ [row], .slice aK' (n0 + 1) cK', .slice aL' (n0 + 1) cL', by simpa using hy6, hrow2.only oy (fun k h1 h2 e => by have e : k = Y := e; omega), by rw [List.length_append, List.length_append, HKR.out, HN0.out]; rfl, hdd.only oy (fun k hk e => by have e : k = Y := e; omega), kB oy hrr (by show B ≠ Y; omega), hoo.trans' oy (fun q hq e => by have e : q = Y := e; have := HWB.out; omega), by rw [List.length_append, List.length_singleton, HN0.out]; exact hlss⟩; have HNEW := hid hnew; have HMU := hid hmu; clear hnew hmu hlss hy6 oy hoo hdd hrr hyr hrow2 q1 q2 q3 gL1 gL2 hF20 HY22 HY23 HR23 HO23 HD23 HW23 HROW
     go_wp2_with fail
     go_roundw
     case rel => exact HNEW
     case measure => exact HMU.out
    ·rw [if_pos rfl] at T; obtain ⟨acc, hK, htl⟩ := HLS.out.stop HBT.out; have HK := hid hK; have HTL := hid htl; clear hK htl
     go_wp2_with fail
     refine T.out.mono ?_
     rintro e w20 ⟨rfl, hd, o4⟩; clear ce cz; have HY20 := hid (kB o4 HYr.out (by omega)); have HR20 := hid (kB o4 HRr.out (by omega)); have HO20 := hid (HOr.out.trans o4); have HW20 := hid (HOWN.out.only o4 (fun k h1 h2 e => by have e : k = b := e; omega)); have HD20 := hid (show Rf w20 b all (.ok () rr.tail) from hd); clear hd o4 T; obtain ⟨c0, c1, c2, c3, c4, cz⟩ := boxN5 HY20.out
     go_wp2_with ((refine wpList_store_box (o := ⟨none, _, _, _, _, _⟩) rfl 35 (.tmp 4) (.tmp 147) (by rfl) B [.int .u8 0, .int .i64 0, .string ⟨#[]⟩, .slice none 0 0, .slice none 0 0] [.int .u8 6, .int .i64 0, .string ⟨#[]⟩, .slice aK n0 cK, .slice aL n0 cL] (by rfl) (by rfl) HR20.out (by rfl) (by kernel_rfl) (by intro u hu; simp at hu; rcases hu with rfl | rfl | rfl | rfl | rfl <;> rfl) ?_; intro w9 k1 k2))
     clear c0 c1 c2 c3 c4 cz; obtain ⟨y0, y1, y2, y3, y4, -⟩ := boxN5 k1; have hd9 := HD20.out.only k2 (fun k hk e => by have e : k = B := e; omega); have hag : ∀ x q, total = .ok x q → aggP B valC w9 x (.agg #[.int .u8 6, .int .i64 0, .string ⟨#[]⟩, .slice aK n0 cK, .slice aL n0 cL]) := fun x q e => by
      rw [HE.out, HTL.out] at e
      injection e with e1 e2; subst e1
      exact ⟨_, rfl, objC (CellAt.weaken (fun q _ h => by have h : Y + 1 ≤ q := h; show B ≤ q; omega) _ _ (OwnRow.cell (by rw [← HK.out.1]; exact HW20.out.left.only k2 (fun k h1 h2 e => by have e : k = B := e; omega)))) (CellAt.weaken (fun q _ h => by have h : Y + 1 ≤ q := h; show B ≤ q; omega) _ _ (OwnRow.cell (by rw [← HK.out.2]; exact HW20.out.right.only k2 (fun k h1 h2 e => by have e : k = B := e; omega))))⟩
     exact bodyPost_ret (v := .agg #[.int .u8 6, .int .i64 0, .string ⟨#[]⟩, .slice aK n0 cK, .slice aL n0 cL]) (by simp [results, Tryz.results95, go_sem, y0, y1, y2, y3, y4]) rfl (HPP.out w9 _ _ hd9 ⟨6, 0, [], aK, n0, cK, aL, n0, cL, rfl⟩ (by rw [HE.out, HTL.out]; rfl) hag (HO20.out.trans' k2 (fun q hq e => by have e : q = B := e; have := HWB.out; omega)))
   ·have t1 : ((e0 : Int) == 0) = false := by simp; omega
    have htl := HLS.out.bad _ _ rfl; have HTL := hid htl; clear htl he0; have HY20 := HYr; have HR20 := HRr; have HO20 := HOr; have HD20 := HDr; have HW20 := HOWN; obtain ⟨c0, c1, c2, c3, c4, fz⟩ := boxN5 HY20.out
    go_wp2_with ((refine wpList_store_box (o := ⟨none, _, _, _, _, _⟩) rfl 35 (.tmp 4) (.tmp 147) (by rfl) B [.int .u8 0, .int .i64 0, .string ⟨#[]⟩, .slice none 0 0, .slice none 0 0] [.int .u8 6, .int .i64 0, .string ⟨#[]⟩, .slice aK n0 cK, .slice aL n0 cL] (by rfl) (by rfl) HR20.out (by rfl) (by kernel_rfl) (by intro u hu; simp at hu; rcases hu with rfl | rfl | rfl | rfl | rfl <;> rfl) ?_; intro w9 k1 k2))
    clear c0 c1 c2 c3 c4 ce cz fz; obtain ⟨y0, y1, y2, y3, y4, -⟩ := boxN5 k1; have hd9 := HD20.out.only k2 (fun k hk e => by have e : k = B := e; omega); have hag : ∀ x q, total = .ok x q → aggP B valC w9 x (.agg #[.int .u8 6, .int .i64 0, .string ⟨#[]⟩, .slice aK n0 cK, .slice aL n0 cL]) := fun x q e => by
     rw [HE.out, HTL.out] at e; cases e
    exact bodyPost_ret (v := .agg #[.int .u8 6, .int .i64 0, .string ⟨#[]⟩, .slice aK n0 cK, .slice aL n0 cL]) (by simp [results, Tryz.results95, go_sem, y0, y1, y2, y3, y4]) rfl (HPP.out w9 _ _ hd9 ⟨6, 0, [], aK, n0, cK, aL, n0, cL, rfl⟩ (by rw [HE.out, HTL.out]; rfl) hag (HO20.out.trans' k2 (fun q hq e => by have e : q = B := e; have := HWB.out; omega)))
 have HNO := hid (show ¬ isT [123] (t :: r') = true from by have := HBT.out; rw [show isT [123] (t :: r') = false from this]; decide); rw [if_neg (by decide)] at T
 go_wp2_with fail
 refine T.out.mono ?_
 rintro e w7 ⟨rfl, hd, o4⟩; clear HBT; have HX7 := hid (kB o4 HX6.out (by omega)); have HR7 := hid (kB o4 HR6.out (by omega)); have HO7 := hid (HO6.out.trans' o4 (fun q hq e => by exact e)); have HD7 := hid (hd); clear HX6 HR6 HO6 HD6; clear o4 hd T; have he : total = .bad t.at_ 4 := by rw [← HT0.out, valueB_cons, if_neg HNK2.out, if_neg HNK3.out, if_neg HNT.out, if_neg HNF.out, if_neg HNN.out, if_neg HNK1.out, if_neg HNV.out, if_neg HNL.out, if_neg HNO.out]
 have HE := hid he; clear he; have J := hid (fFault_any b all (.ok () (t :: r')) 4 (by decide) w7 HD7.out)
 go_wp2_with fail
 refine J.out.mono ?_
 rintro e w8 ⟨rfl, hd, o4⟩; have HX8 := hid (kB o4 HX7.out (by omega)); have HR8 := hid (kB o4 HR7.out (by omega)); have HO8 := hid (HO7.out.trans' o4 (fun q hq e => by exact e)); have HD8 := hid ((show Rf w8 b all (.bad t.at_ 4) from hd)); clear HX7 HR7 HO7 HD7; clear o4 hd J
 go_wp2_with ((refine wpList_store_box (o := ⟨none, _, _, _, _, _⟩) rfl 35 (.tmp 4) (.tmp 150) (by rfl) B [.int .u8 0, .int .i64 0, .string ⟨#[]⟩, .slice none 0 0, .slice none 0 0] [.int .u8 0, .int .i64 0, .string ⟨#[]⟩, .slice none 0 0, .slice none 0 0] (by rfl) (by rfl) HR8.out (by rfl) (by kernel_rfl) (by intro u hu; simp at hu; rcases hu with rfl | rfl | rfl | rfl | rfl <;> rfl) ?_; intro w9 k1 k2))
 obtain ⟨y0, y1, y2, y3, y4, -⟩ := boxN5 k1; have hd9 := HD8.out.only k2 (fun k hk e => by have e : k = B := e; omega); have hag : ∀ x q, total = .ok x q → aggP B valC w9 x (.agg #[.int .u8 0, .int .i64 0, .string ⟨#[]⟩, .slice none 0 0, .slice none 0 0]) := fun x q e => by
  rw [HE.out] at e; cases e
 exact bodyPost_ret (v := .agg #[.int .u8 0, .int .i64 0, .string ⟨#[]⟩, .slice none 0 0, .slice none 0 0]) (by simp [results, Tryz.results95, go_sem, y0, y1, y2, y3, y4]) rfl (HPP.out w9 _ _ hd9 ⟨0, 0, [], none, 0, 0, none, 0, 0, rfl⟩ (by rw [HE.out]; rfl) hag (HO8.out.trans' k2 (fun q hq e => by have e : q = B := e; have := HWB.out; omega)))
set_option maxRecDepth 100000 in
set_option maxHeartbeats 8000000 in
theorem fValue_any : ∀ (n : Nat) (fx : Bool) (b : Nat) (all : RL) (σ0 : PR Unit) (w : World), all.dp + n = 24 → Rf w b all σ0 →
  Calls Tryz.prog 73 #[.pointer (some ⟨b, 0, none⟩), .bool fx] w (FAns w b all σ0 (fun w' x v => aggP w.heap.size valC w' x v) valF (valueP fx n))
 | n, fx, b, all, .bad a c, w, hdp, h => (fValue_stop b all (by omega) (.bad a c) a c fx w (by unfold opn; split <;> rfl) h).mono fun e w' ⟨h1, h2, h3⟩ => ⟨_, h1, ⟨0, 0, [], none, 0, 0, none, 0, 0, rfl⟩, h2, fun x q e => (by cases e), h3⟩
 | 0, fx, b, all, .ok u r, w, hdp, h => (fValue_stop b all (by omega) (.ok u r) (atT r) 5 fx w (if_pos (by omega)) h).mono fun e w' ⟨h1, h2, h3⟩ => ⟨_, h1, ⟨0, 0, [], none, 0, 0, none, 0, 0, rfl⟩, h2, fun x q e => (by cases e), h3⟩
 | n + 1, fx, b, all, .ok u r, w, hdp, h => by
  have hbl := h.lt; have hopn : opn all.dp (.ok u r) = .ok () r := if_neg (by omega); obtain ⟨B, hB⟩ := eX (w.heap.size); have hbB : b < B := by omega
  obtain ⟨P, hP⟩ := eX (valueB fx (valueP fx n) r); have HP : ∀ w' v, valF v → Rf w' b all P.unit → (∀ x q, P = .ok x q → aggP B valC w' x v) → Only (fun k => k = b) w w' → FAns w b all (.ok u r) (fun w' x v => aggP w.heap.size valC w' x v) valF (valueP fx (n + 1)) (.returned v) w' := fun w' v q1 q2 q3 q4 => ⟨v, rfl, q1, by rw [show ((PR.ok u r : PR Unit).bind fun _ => valueP fx (n + 1)) = P from hP]; exact q2, fun x q e => by rw [hB]; exact q3 x q (hP.symm.trans e), q4⟩
  obtain ⟨w0, hw0⟩ := eX (w.alloc (.cells #[.int .u8 0, .int .i64 0, .string ⟨#[]⟩, .slice none 0 0, .slice none 0 0] 35)); obtain ⟨w1, hw1⟩ := eX (w0.alloc (.cells #[.int .u8 0, .int .i64 0, .string ⟨#[]⟩, .slice none 0 0, .slice none 0 0] 35)); obtain ⟨Y, hY⟩ := eX (w0.heap.size); have hs0 : w0.heap.size = B + 1 := by rw [← hw0, World.size_alloc, hB]
  have hr0 : w0.heap[B]? = some (.cells #[.int .u8 0, .int .i64 0, .string ⟨#[]⟩, .slice none 0 0, .slice none 0 0] 35 (0, 0)) := by rw [← hw0, ← hB]; exact heap_new _ _
  have hr1 : w1.heap[B]? = some (.cells #[.int .u8 0, .int .i64 0, .string ⟨#[]⟩, .slice none 0 0, .slice none 0 0] 35 (0, 0)) := by rw [← hw1]; exact heap_old hr0 _
  have hy1 : w1.heap[Y]? = some (.cells #[.int .u8 0, .int .i64 0, .string ⟨#[]⟩, .slice none 0 0, .slice none 0 0] 35 (0, 0)) := by rw [← hw1, ← hY]; exact heap_new _ _
  have o1 : Only (fun _ => False) w w1 := by rw [← hw1, ← hw0]; exact ((Only.refl _ w).alloc _).alloc _
  have J := hid (fOpen_any b all (by omega) (.ok u r) w1 (h.still o1)); rw [hopn] at J; have hBY : B < Y := by omega
  have IH := hid (fun (w' : World) (h' : Rf w' b all.in_ (.ok () r)) => fvalue_any n fx b all.in_ (by show all.dp + 1 + n = 24; omega) (fun σ w2 h2 => fValue_any n fx b all.in_ σ w2 (by show all.dp + 1 + n = 24; omega) h2) r w' h'); have HDP := hid (show all.dp ≤ 1000 by omega); have HPP := hid HP; have HPE := hid hP; have HB := hid hB; have HW0 := hid hw0; have HW1 := hid hw1; have HY := hid hY; have HR1 := hid hr1; have HY1 := hid hy1; have O1 := hid o1; have HWB := hid (show w.heap.size ≤ B by omega); clear HP hP hB hw0 hw1 hY hs0 hr0 hr1 hy1 o1 h hbl hopn hdp
  generalize (FAns w b all (.ok u r) (fun w' x v => aggP w.heap.size valC w' x v) valF (valueP fx (n + 1))) = Q at *
  go_enter Tryz.func73, Tryz.ntmps73
  go_upto_region 1 with (fail)
  rw [HB.out, HW0.out]
  go_upto_region 2 with (fail)
  rw [HY.out, HW1.out]; clear HW0 HW1
  go_wp2_with fail
  refine J.out.mono ?_
  rintro e w2 ⟨rfl, hd2, o2⟩; have hr2 := kB o2 HR1.out (by omega); have hy2 := kB o2 HY1.out (by omega); have J2 := hid (IH.out w2 hd2); have HR2 := hid hr2; have HY2 := hid hy2; have HO2 := hid ((O1.out.mono (T := fun k => k = b) (fun _ _ h => h.elim)).trans o2); clear hd2 hr2 hy2 o2 J IH HR1 HY1 O1 HY
  go_wp2_with fail
  refine J2.out.mono ?_
  rintro e w3 ⟨v, rfl, ⟨kd, nm, sv, a1, l1, p1, a2, l2, p2, rfl⟩, hd, hv, o3⟩; have hsz : B < w2.heap.size := (gE HR2.out).1; have hsy : Y < w2.heap.size := (gE HY2.out).1; have hd : Rf w3 b all.in_ (valueB fx (valueP fx n) r).unit := hd; rw [HPE.out] at hd; have hvc : ∀ x q, P = .ok x q → CellsAt w3 (fun q => Y < q) (valC x) [.int .u8 (kd : Int), .int .i64 nm, .string ⟨sv.toArray⟩, .slice a1 l1 p1, .slice a2 l2 p2] := fun x q e => CellsAt.weaken (fun q _ h => by have h : w2.heap.size ≤ q := h; show Y < q; omega) _ _ (aggF_cells (hv x q (show valueB fx (valueP fx n) r = .ok x q from HPE.out.trans e)))
  have HR3 := hid (kB o3 HR2.out (by omega)); have HY3 := hid (kB o3 HY2.out (by omega)); have HO3 := hid (HO2.out.trans o3); have HD3 := hid hd; have HVC := hid hvc; clear hd hv hvc o3 J2 HR2 HY2 HO2
  go_upto_region 4 with ((refine wpList_store_box (o := ⟨none, _, _, _, _, _⟩) rfl 35 (.tmp 5) (.tmp 10) (by rfl) Y [.int .u8 0, .int .i64 0, .string ⟨#[]⟩, .slice none 0 0, .slice none 0 0] [.int .u8 (kd : Int), .int .i64 nm, .string ⟨sv.toArray⟩, .slice a1 l1 p1, .slice a2 l2 p2] (by rfl) (by rfl) HY3.out (by rfl) (by kernel_rfl) (by intro u hu; simp at hu; rcases hu with rfl | rfl | rfl | rfl | rfl <;> rfl) ?_; intro w4 k1 k2))
  have HY4 := hid (show w4.heap[Y]? = some (.cells #[.int .u8 (kd : Int), .int .i64 nm, .string ⟨sv.toArray⟩, .slice a1 l1 p1, .slice a2 l2 p2] 35 (0, 0)) from k1); have HR4 := hid (kB k2 HR3.out (by omega)); have hd4 := HD3.out.only k2 (fun k hk e => by have e : k = Y := e; omega); obtain ⟨dv, kd2, kfz, -⟩ := Rf.dcell hd4; obtain ⟨xd, hxd⟩ := eX (IntKind.i64.wrap (dv - 1)); have hd5 := Rf.up hd4 HDP.out kd2; rw [hxd] at hd5; have o5 : Only (fun k => k = b) w4 (w4.setCell ⟨b, 2, none⟩ (.int .i64 xd)) := (Only.refl (fun k => k = b) w4).setCell (.inl rfl) _; have hO5 : Only (fun k => k = b) w (w4.setCell ⟨b, 2, none⟩ (.int .i64 xd)) := (HO3.out.trans' k2 (fun q hq e => by have e : q = Y := e; have := HWB.out; omega)).trans o5; have hvc5 : ∀ x q, P = .ok x q → CellsAt (w4.setCell ⟨b, 2, none⟩ (.int .i64 xd)) (fun q => Y < q) (valC x) [.int .u8 (kd : Int), .int .i64 nm, .string ⟨sv.toArray⟩, .slice a1 l1 p1, .slice a2 l2 p2] := fun x q e => CellsAt.only o5 (fun k hk e => by have hk : Y < k := hk; have e : k = b := e; omega) _ _ (CellsAt.only k2 (fun k hk e => by have hk : Y < k := hk; have e : k = Y := e; omega) _ _ (HVC.out x q e))
  obtain ⟨w5, hw5⟩ := eX (w4.setCell ⟨b, 2, none⟩ (.int .i64 xd)); rw [hw5] at hd5 o5 hO5 hvc5; have HR5 := hid (kB o5 HR4.out (by omega)); have HY5 := hid (kB o5 HY4.out (by omega)); have HD5 := hid hd5; have HO5 := hid hO5; have HW5 := hid hw5; have HV5 := hid hvc5; clear hd5 hO5 hw5 hvc5 o5 hd4 k1 k2 HY4 HR4 HR3 HY3 HO3 HD3 HVC hsz hsy
  go_upto_region 5 with (fail)
  rw [HW5.out]; clear hxd HW5 kd2 kfz; obtain ⟨y0, y1, y2, y3, y4, yz⟩ := boxN5 HY5.out
  go_wp2_with ((refine wpList_store_box (o := ⟨none, _, _, _, _, _⟩) rfl 35 (.tmp 4) (.tmp 18) (by rfl) B [.int .u8 0, .int .i64 0, .string ⟨#[]⟩, .slice none 0 0, .slice none 0 0] [.int .u8 (kd : Int), .int .i64 nm, .string ⟨sv.toArray⟩, .slice a1 l1 p1, .slice a2 l2 p2] (by rfl) (by rfl) HR5.out (by rfl) (by kernel_rfl) (by intro u hu; simp at hu; rcases hu with rfl | rfl | rfl | rfl | rfl <;> rfl) ?_; intro w9 k1 k2))
  clear y0 y1 y2 y3 y4 yz; obtain ⟨y0, y1, y2, y3, y4, -⟩ := boxN5 k1; exact bodyPost_ret (v := .agg #[.int .u8 (kd : Int), .int .i64 nm, .string ⟨sv.toArray⟩, .slice a1 l1 p1, .slice a2 l2 p2]) (by simp [results, Tryz.results73, go_sem, y0, y1, y2, y3, y4]) rfl (HPP.out w9 _ ⟨kd, nm, sv, a1, l1, p1, a2, l2, p2, rfl⟩ (HD5.out.only k2 (fun k hk e => by have e : k = B := e; omega)) (fun x q e => ⟨_, rfl, CellsAt.weaken (fun q _ h => by have h : Y < q := h; show B ≤ q; omega) _ _ (CellsAt.only k2 (fun k hk e => by have hk : Y < k := hk; have e : k = B := e; omega) _ _ (HV5.out x q e))⟩) (HO5.out.trans' k2 (fun q hq e => by have e : q = B := e; have := HWB.out; omega)))
end Go.Proofs.YtnkpoddbbdmipaaGreatDoor
