/- . -/
import Derived.Below
import Derived.Test.YtnkpoddbbdmipaaGreatDoorTDcOwC
import Derived.Test.YtnkpoddbbdmipaaGreatDoorTDcOnc
import Derived.Test.YtnkpoddbbdmipaaGreatDoorTDcShf
import Derived.Test.YtnkpoddbbdmipaaGreatDoorTDcQbl
import Derived.Test.YtnkpoddbbdmipaaGreatDoorTDcSmv
import Derived.Test.YtnkpoddbbdmipaaGreatDoorTDcPnt
import Derived.Lib.Join
import Derived.Lib.Strings
import Derived.Lib.Slices
import Derived.Lib.Walk
import Derived.Lib.Bytealg
import Derived.Laws.CopyOwn
import Derived.Deep.WholeRow
namespace Go.Proofs.YtnkpoddbbdmipaaGreatDoor
open Go Go.RowKit
open Go.Lib (hid)
set_option linter.unusedVariables false
set_option linter.unusedSimpArgs false
theorem cat_list (a b : List UInt8) : (⟨a.toArray⟩ : ByteArray) ++ ⟨b.toArray⟩ = ⟨(a ++ b).toArray⟩ := by
 apply ByteArray.ext; simp
theorem Only.below {S : Nat → Prop} {w w' : World} (h : Only S w w') {B : Nat} (hB : B ≤ w.heap.size) (hS : ∀ k, k < B → ¬ S k) : Below B w w' :=
 ⟨h.os, h.tape, h.output, h.size, fun k hk => h.block k (by omega) (hS k hk)⟩
theorem Only.ofBelow {w w' : World} (h : Below w.heap.size w w') (S : Nat → Prop) : Only S w w' :=
 ⟨h.os, h.tape, h.output, h.size, fun k hk _ => h.block k hk⟩
theorem Only.alike {S : Nat → Prop} {a w w' : World} (h : Only S a w) (hk : w'.Alike w) (ht : w'.tape = w.tape) : Only S a w' :=
 ⟨hk.2.1.trans h.os, ht.trans h.tape, hk.2.2.trans h.output, by rw [hk.1]; exact h.size, fun k hk' hs => by rw [hk.1]; exact h.block k hk' hs⟩
theorem join_len (gap : List UInt8) : ∀ xs : List (List UInt8), (xs.length - 1) * gap.length ≤ (Lib.join xs gap).length
 | [] => by simp [Lib.join]
 | [x] => by simp
 | x :: y :: r => by
  have ih := join_len gap (y :: r); have e : Lib.join (x :: y :: r) gap = x ++ gap ++ Lib.join (y :: r) gap := by simp [Lib.join, List.intercalate, List.intersperse]
  rw [e, List.length_append, List.length_append]; simp only [List.length_cons] at ih ⊢; have : (r.length + 1 + 1 - 1) * gap.length = (r.length + 1 - 1) * gap.length + gap.length := by
   rw [show r.length + 1 + 1 - 1 = (r.length + 1 - 1) + 1 by omega, Nat.succ_mul]
  omega
theorem join_few {gap : List UInt8} (hg : 1 ≤ gap.length) (xs : List (List UInt8)) (hl : (Lib.join xs gap).length ≤ 1000000000000) : xs.length ≤ 1000000000001 := by
 have h := join_len gap xs; have h2 : (xs.length - 1) * 1 ≤ (xs.length - 1) * gap.length := Nat.mul_le_mul_left _ hg; omega
theorem cq5_of {w : World} {g p : Nat} {x0 x1 x2 x3 x4 : Value} (h : ∀ j q, ([x0, x1, x2, x3, x4] : List Value)[j]? = some q → w.cell? ⟨g, p + j, none⟩ = some q) : w.cell? ⟨g, p, none⟩ = some x0 ∧ w.cell? ⟨g, p + 1, none⟩ = some x1 ∧ w.cell? ⟨g, p + 2, none⟩ = some x2 ∧ w.cell? ⟨g, p + 3, none⟩ = some x3 ∧ w.cell? ⟨g, p + 4, none⟩ = some x4 := ⟨h 0 _ rfl, h 1 _ rfl, h 2 _ rfl, h 3 _ rfl, h 4 _ rfl⟩
set_option maxRecDepth 100000 in
set_option maxHeartbeats 8000000 in
theorem pjoinV_any (xs : List VT) (txt : VT → List UInt8) (G : Nat → Prop) (w : World) (v : Value) (gap : List UInt8) (hg : 1 ≤ gap.length) (h : CellAt w G (.row 5 (xs.map valC)) v)
  (hf : ∀ (i : Nat) (hi : i < xs.length) (wx : World) (cs : List Value), Only (fun _ => False) w wx → CellsAt wx G (valC xs[i]) cs → Calls Tryz.prog 18 #[.agg cs.toArray] wx (fun e w' => e = .returned (.string ⟨(txt xs[i]).toArray⟩) ∧ Only (fun _ => False) wx w'))
  (hl : (Lib.join (xs.map txt) gap).length ≤ 1000000000000) :
  Calls Tryz.prog 56 #[v, .string ⟨gap.toArray⟩, .func (.func 18) #[] #[]] w (fun e w' => e = .returned (.string ⟨(Lib.join (xs.map txt) gap).toArray⟩) ∧ Only (fun _ => False) w w') := by
 have hn := join_few hg _ hl; rw [List.length_map] at hn; obtain ⟨av, cv, rfl, hcv, hcv', hV⟩ := rows_at h; obtain ⟨L, hL⟩ := eX (xs.length); obtain ⟨R, hR⟩ := eX (Lib.join (xs.map txt) gap); have HVV := hid hV; have HF := hid hf; have HL := hid hL; have HR := hid hR; have HLEN := hid hl; rw [hL] at hcv hn ⊢; rw [hR]; clear h hV hf hL hR hl
 go_enter Tryz.func56, Tryz.ntmps56
 go_wp2_with fail
 go_loopw [7, 12] (fun x y wr => ∃ i : Nat, y = .int .i64 (i : Int) ∧ Hid (i ≤ L ∧ Only (fun _ => False) w wr ∧ wr.ownsRow w.heap.size 9 1 x i ((xs.take i).map fun z => .string ⟨(txt z).toArray⟩))) (fun _ y _ => L - (intOf y).toNat)
 case atStart => exact ⟨0, rfl, hid ⟨by omega, oR, by rw [List.take_zero]; exact own_nil _ _ _ _⟩⟩
 case round =>
  obtain ⟨i, rfl, hrel⟩ := hrel; obtain ⟨hi, ho, hown⟩ := hrel.out; obtain ⟨ax, cx, ex, k1, k2, k3⟩ := own_form hown; subst ex; have k2' : cx ≤ 9223372036854775807 := by unfold maxLen at k2; omega
  have HO := hid ho; have HOWN := hid hown; have HK3 := hid k3; clear hrel ho hown k2 k3
  by_cases hlt : i < L
  ·have t1 : decide ((i : Int) < (L : Int)) = true := decide_eq_true (by omega); have hi0 : (0 : Int) ≤ (i : Int) := by omega
   have hi1 : (i : Int) < (L : Int) := by omega
   have hvi : i < xs.length := by rw [HL.out]; exact hlt
   obtain ⟨gv, ov, cs, rfl, hgv, hr, hc⟩ := HVV.out i hvi; obtain ⟨X, hX⟩ := eX (wr.heap.size); have hfi := fun (wx : World) (ox : Only (fun _ => False) w wx) => HF.out i hvi wx cs ox (CellsAt.only ox (fun _ _ h => h) _ _ hc)
   obtain ⟨k, n, s, a1, l1, e1, a2, l2, e2, rfl⟩ := valC_form2 hc; obtain ⟨w4, hw4⟩ := eX (wr.alloc (.cells #[.int .u8 (k : Int), .int .i64 n, .string ⟨s.toArray⟩, .slice a1 l1 e1, .slice a2 l2 e2] 35)); have o4 : Only (fun _ => False) wr w4 := by rw [← hw4]; exact (Only.refl _ _).alloc _
   have hx4 : w4.heap[X]? = some (.cells #[.int .u8 (k : Int), .int .i64 n, .string ⟨s.toArray⟩, .slice a1 l1 e1, .slice a2 l2 e2] 35 (0, 0)) := by rw [← hw4, ← hX]; exact heap_new _ _
   have J := hid (hfi w4 (HO.out.trans o4)); obtain ⟨e0_, e1_, e2_, e3_, e4_⟩ := cq5_of hr; have e0_ := keepc HO.out e0_; have e1_ := keepc HO.out e1_; have e2_ := keepc HO.out e2_; have e3_ := keepc HO.out e3_; have e4_ := keepc HO.out e4_; obtain ⟨tx, htx⟩ := eX (txt xs[i]); rw [htx] at J; have HTX := hid htx; have HX := hid hX; have HW4 := hid hw4; have HO4 := hid (HO.out.trans o4); have HX4 := hid hx4; have O4 := hid o4; clear hfi hc hr hX hw4 o4 hx4 htx
   go_upto_region 5 with (fail)
   rw [HX.out, HW4.out]; clear e0_ e1_ e2_ e3_ e4_ HX HW4; obtain ⟨x0, x1, x2, x3, x4, -⟩ := boxN5 HX4.out
   go_wp2_with fail
   refine J.out.mono ?_
   rintro e w5 ⟨rfl, o5⟩; obtain ⟨G5, hG5⟩ := eX (w5.heap.size); obtain ⟨w6, hw6⟩ := eX (w5.alloc (.cells #[.string ⟨tx.toArray⟩] 9)); have o6 : Only (fun _ => False) w5 w6 := by rw [← hw6]; exact (Only.refl _ _).alloc _
   have hx6 : w6.heap[G5]? = some (.cells #[.string ⟨tx.toArray⟩] 9 (0, 0)) := by rw [← hw6, ← hG5]; exact heap_new _ _
   have o46 : Only (fun _ => False) wr w6 := (O4.out.trans o5).trans o6; have hown6 := own_only' HOWN.out o46 (fun _ _ h => h); have hys : ∀ j u, ([.string ⟨tx.toArray⟩] : List Value)[j]? = some u → w6.cell? ((⟨G5, 0, none⟩ : Addr).add j) = some u := fun j u hu => by
    match j, hu with
    | 0, hu => rw [addr_add]; simp [World.cell?, hx6]; simpa using hu
   have hB6 : w.heap.size ≤ w6.heap.size := Nat.le_trans HO.out.size o46.size; have HO6 := hid (HO.out.trans o46); have HOWN6 := hid hown6; have HYS := hid hys; have HB6 := hid hB6; have HG5 := hid hG5; have HW6 := hid hw6; clear o5 o6 hx6 o46 hown6 hys hB6 hG5 hw6 x0 x1 x2 x3 x4
   go_wp2_with ((rw [HG5.out, HW6.out]; refine wpList_append_own2 (o := ⟨some 21, _, _, _, _, _⟩) rfl (.tmp 16) (.tmp 20) 32 9 (by rfl) Tryz.underlying32 infoStrQ rfl (by decide) w.heap.size (.slice ax i cx) i 1 1 ((xs.take i).map fun z => .string ⟨(txt z).toArray⟩) [.string ⟨tx.toArray⟩] ⟨G5, 0, none⟩ (by rfl) (by rfl) HOWN6.out (by rfl) HYS.out (by intro u hu; simp at hu; subst hu; rfl) (by unfold maxLen; omega) (by omega) HB6.out ?_; intro v' w9 q1 q2 q3))
   have hoo : Only (fun _ => False) w w9 := HO6.out.trans' q2 (fun q hq h => by have := (HK3.out q h).1; omega); have hrow : w9.ownsRow w.heap.size 9 1 v' (i + 1) ((xs.take (i + 1)).map fun z => .string ⟨(txt z).toArray⟩) := by
    rw [List.take_succ_eq_append_getElem hvi, List.map_append, List.map_singleton, HTX.out]; exact q1
   have HNEW := hid (And.intro (show i + 1 ≤ L by omega) (And.intro hoo hrow)); clear q1 q2 q3 hoo hrow
   go_wp2_with fail
   go_roundw
   case rel => exact ⟨i + 1, by simp, HNEW⟩
   case measure => simp [intOf]; omega
  ·have t1 : decide ((i : Int) < (L : Int)) = false := decide_eq_false (by omega); have hiL : i = L := by omega
   subst hiL
   by_cases h0 : i = 0
   ·subst h0; have J := hid (Tryz.strings_Join_none ax cx ⟨gap.toArray⟩ wr); have hre : R = [] := by
     rw [← HR.out, List.eq_nil_of_length_eq_zero HL.out]; rfl
    have HRE := hid hre; clear hre
    go_wp2_with fail
    refine J.out.mono ?_
    rintro e w9 ⟨rfl, rfl⟩
    go_wp2_with fail
    go_ret
    exact ⟨by rw [HRE.out]; rfl, HO.out⟩
   ·obtain ⟨g2, c2, e2, hBg, hgw, hrg⟩ := own_range HOWN.out (by omega)
    injection e2 with e2 e2' e2''
    subst e2; have hlen2 : ((xs.map fun z => (⟨(txt z).toArray⟩ : ByteArray)).length) = i := by rw [List.length_map, HL.out]
    have hdat : (xs.map fun z => (⟨(txt z).toArray⟩ : ByteArray)).map (·.data.toList) = xs.map txt := by rw [List.map_map]; exact List.map_congr_left (fun z _ => rfl)
    have htk : xs.take i = xs := by rw [← HL.out]; exact List.take_length
    have J := Tryz.strings_Join g2 0 cx (xs.map fun z => (⟨(txt z).toArray⟩ : ByteArray)) ⟨gap.toArray⟩ wr (fun j x hj => by
     rw [List.getElem?_map] at hj; obtain ⟨z, hz, rfl⟩ : ∃ z, xs[j]? = some z ∧ (⟨(txt z).toArray⟩ : ByteArray) = x := by
      cases hq : xs[j]? with
      | none => rw [hq] at hj; cases hj
      | some z => rw [hq] at hj; injection hj with hj; exact ⟨z, rfl, hj⟩
     exact hrg j _ (by rw [htk, List.getElem?_map, hz]; rfl)) hgw (by rw [hlen2]; omega) (by rw [hlen2]; omega) (by rw [hdat]; show (Lib.join _ gap).length ≤ _; have := HLEN.out; omega)
    rw [hlen2, hdat] at J; have J : Calls Tryz.prog 48 #[.slice (some ⟨g2, 0, none⟩) i cx, .string ⟨gap.toArray⟩] wr fun e w' => e = .returned (.string ⟨(Lib.join (xs.map txt) gap).toArray⟩) ∧ Below wr.heap.size wr w' := J
    rw [HR.out] at J; have J := hid J; clear hlen2 hdat htk hrg e2' e2''
    go_wp2_with fail
    refine J.out.mono ?_
    rintro e w9 ⟨rfl, ob⟩; have HO9 := hid (HO.out.trans (Only.ofBelow ob _)); clear ob
    go_wp2_with fail
    go_ret
    exact ⟨rfl, HO9.out⟩
set_option maxHeartbeats 1000000 in
set_option maxRecDepth 100000 in
theorem count_one (s : ByteArray) (c : UInt8) (w : World) :
  Calls Tryz.prog 171 #[.string s, .string ⟨#[c]⟩] w fun e w' => e = .returned (.int .i64 ((s.data.toList.count c : Nat) : Int)) ∧ w' = w := by
 go_enter Tryz.func171, Tryz.ntmps171
 go_wp2
 rw [run_callFunc_extern Tryz.func173 (by kernel_rfl) (by kernel_rfl) (by kernel_rfl) (e := Extern.BytealgCount.count) (by kernel_rfl), Lib.run_countString]; simp only [Result.andThen]; rw [Oper.upon_value]
 go_wp2
 go_ret
 exact ⟨rfl, rfl⟩
def escP4 : List UInt8 := [9, 10, 34, 92]
theorem esc1_in {c : UInt8} (h : c ∈ escP4) : (esc1 c).length = 2 := by
 have h : c ∈ ([9, 10, 34, 92] : List UInt8) := h; simp only [List.mem_cons, List.not_mem_nil, or_false] at h
 rcases h with rfl | rfl | rfl | rfl <;> rfl
theorem esc1_out {c : UInt8} (h : c ∉ escP4) : esc1 c = [c] := by
 unfold esc1; have h9 : c.toNat ≠ 9 := fun e => h (by rw [show c = 9 from UInt8.toNat_inj.1 e]; decide)
 have h10 : c.toNat ≠ 10 := fun e => h (by rw [show c = 10 from UInt8.toNat_inj.1 e]; decide)
 have h34 : c.toNat ≠ 34 := fun e => h (by rw [show c = 34 from UInt8.toNat_inj.1 e]; decide)
 have h92 : c.toNat ≠ 92 := fun e => h (by rw [show c = 92 from UInt8.toNat_inj.1 e]; decide)
 rw [if_neg h10, if_neg h9, if_neg (by omega)]
theorem escS_cons' (c : UInt8) (l : List UInt8) : escS (c :: l) = esc1 c ++ escS l := by unfold escS; rw [List.flatMap_cons]
theorem escS_count : ∀ l : List UInt8, (escS l).length = l.length + (escP4.map fun u => l.count u).sum
 | [] => rfl
 | c :: l => by
  rw [escS_cons', List.length_append, escS_count l, List.length_cons]
  by_cases h : c ∈ escP4
  ·rw [esc1_in h]; have h' : c ∈ ([9, 10, 34, 92] : List UInt8) := h; simp only [List.mem_cons, List.not_mem_nil, or_false] at h'
   rcases h' with rfl | rfl | rfl | rfl <;> simp [escP4, List.count_cons] <;> omega
  ·rw [esc1_out h]; have e : ∀ u ∈ escP4, (c :: l).count u = l.count u := fun u hu => by
    rw [List.count_cons, if_neg (by simp; intro e; exact h (e ▸ hu))]; rfl
   rw [List.map_congr_left e]; simp; omega
theorem escS_same : ∀ l : List UInt8, (escS l).length = l.length → escS l = l
 | [], _ => rfl
 | c :: l, h => by
  rw [escS_cons', List.length_append, List.length_cons] at h; have h2 := escS_count l
  by_cases hc : c ∈ escP4
  ·rw [esc1_in hc] at h; omega
  ·rw [escS_cons', esc1_out hc, escS_same l (by rw [esc1_out hc] at h; simp at h; omega)]; rfl
theorem escS_snoc (s : ByteArray) (k : Nat) (h : k < s.size) : escS (s.data.toList.take (k + 1)) = escS (s.data.toList.take k) ++ esc1 s[k] := by
 have e : s.data.toList.take (k + 1) = s.data.toList.take k ++ [s[k]] := by
  rw [List.take_succ_eq_append_getElem (show k < s.data.toList.length from h)]; rfl
 rw [e]; unfold escS; rw [List.flatMap_append, List.flatMap_cons, List.flatMap_nil, List.append_nil]
theorem escS_le (s : ByteArray) (k : Nat) : (escS (s.data.toList.take k)).length ≤ (escS s.data.toList).length := by
 conv => rhs; rw [← List.take_append_drop k s.data.toList]
 unfold escS; rw [List.flatMap_append, List.length_append]; omega
theorem escS_up (l : List UInt8) : l.length ≤ (escS l).length ∧ (escS l).length ≤ 2 * l.length := by
 refine ⟨by rw [escS_count]; omega, ?_⟩
 induction l with
 | nil => simp [escS]
 | cons c l ih =>
  rw [escS_cons', List.length_append, List.length_cons]
  by_cases hc : c ∈ escP4
  ·rw [esc1_in hc]; omega
  ·rw [esc1_out hc]; simp; omega
def u8q (l : List UInt8) : List Value := l.map fun b => Value.int .u8 (b.toNat : Int)
def bufQ (E : List UInt8) (N : Nat) : List Value := u8q (E ++ List.replicate (N - E.length) 0)
theorem bufQ_len {E : List UInt8} {N : Nat} (h : E.length ≤ N) : (bufQ E N).length = N := by simp [bufQ, u8q]; omega
theorem bufQ_set {E : List UInt8} {N : Nat} (c : UInt8) (h : E.length < N) : (bufQ E N).set E.length (.int .u8 (c.toNat : Int)) = bufQ (E ++ [c]) N := by
 unfold bufQ u8q; obtain ⟨m, hm⟩ : ∃ m, N - E.length = m + 1 := ⟨N - E.length - 1, by omega⟩; have hm2 : N - (E ++ [c]).length = m := by simp; omega
 rw [hm, hm2, List.replicate_succ, List.map_append, List.set_append_right _ _ (by simp)]; simp
theorem bufQ_at {E : List UInt8} {N : Nat} (h : E.length < N) : (bufQ E N)[E.length]? = some (.int .u8 0) := by
 unfold bufQ u8q; obtain ⟨m, hm⟩ : ∃ m, N - E.length = m + 1 := ⟨N - E.length - 1, by omega⟩; rw [hm, List.replicate_succ, List.map_append, List.getElem?_append_right (by simp)]; simp
theorem bufQ_splice {E : List UInt8} {N : Nat} (a b : UInt8) (h : E.length + 2 ≤ N) : splice (bufQ E N) E.length (u8q [a, b]) = bufQ (E ++ [a, b]) N := by
 unfold splice bufQ u8q; obtain ⟨m, hm⟩ : ∃ m, N - E.length = m + 2 := ⟨N - E.length - 2, by omega⟩; have hm2 : N - (E ++ [a, b]).length = m := by simp; omega
 rw [hm, hm2, List.replicate_succ, List.replicate_succ, List.map_append]; simp [List.drop_append, List.take_append]
theorem bufQ_cell {w : World} {G : Nat} {l : List UInt8} {T : TypeId} (h : w.heap[G]? = some (.cells (bufQ l l.length).toArray T (0, 0))) (j : Nat) (hj : j < l.length) : w.cell? ⟨G, j, none⟩ = some (.int .u8 (l[j].toNat : Int)) := by
 simp only [World.cell?, h]; simp [bufQ, u8q, hj]
theorem wpList_copy_only {P : Program} {ops : Array Oper} {rest : List Oper} {o : Oper} {a : Act} {w : World} {Q : Exit → Act → World → Prop} (hgd : o.guard = none) (d s : Operand) (dT sT : TypeId)
  (ho : o.op = .call { callee := .builtin .copy, args := #[d, s], argTypes := #[dT, sT] }) (elem : TypeId) (hu : P.underlying dT = some (.slice elem)) (hsz : (P.info? elem).map (·.size) = some 1)
  (dp sp : Option Addr) (dLen dCap sLen sCap : Nat) (hd : a.eval d = .slice dp dLen dCap) (hs : a.eval s = .slice sp sLen sCap)
  (g off : Nat) (cur : List Value) (t : TypeId) (hg : w.heap[g]? = some (.cells cur.toArray t (0, 0))) (cs : List Value) (hn : cs.length = Nat.min sLen dLen)
  (hpos : 0 < cs.length → dp = some ⟨g, off, none⟩ ∧ ∃ ad, sp = some ad ∧ ∀ j v, cs[j]? = some v → w.cell? (ad.add j) = some v)
  (hfit : off + cs.length ≤ cur.length) (h1 : ∀ v ∈ cs, v.oneCell' = true)
  (h : ∀ w', w'.heap[g]? = some (.cells (splice cur off cs).toArray t (0, 0)) → Only (fun k => k = g) w w' → wpList P ops Q rest (a.put o.dst (goInt cs.length)) w') : wpList P ops Q (o :: rest) a w := by
 by_cases h0 : cs.length = 0
 ·obtain rfl : cs = [] := List.eq_nil_of_length_eq_zero h0; refine wpList_copy_nothing hgd d s dT sT ho elem hu hsz dp sp dLen dCap sLen sCap hd hs (by simpa using hn.symm) ?_
  exact h w (by simpa [splice] using hg) oR
 ·obtain ⟨rfl, ad, rfl, hsrc⟩ := hpos (by omega); refine wpList_copy_own hgd d s dT sT ho elem hu hsz g off dLen dCap ad sLen sCap hd hs cur.toArray t hg cs hn hsrc (by simpa using hfit) h1 ?_
  exact h _ (by simpa [splice] using setRow_heap w g _ _ t _ hg) ⟨rfl, rfl, rfl, by simp [World.setRow], fun k _ hk => setRow_other w g k _ hk⟩
theorem sizeQ : (Tryz.prog.info? 5).map (·.size) = some 1 := by kernel_rfl
theorem infoU8q : (Tryz.prog.info? 5).map (fun i => (i.zero, i.size, i.bytes)) = some (some (.int .u8 0), 1, 1) := by kernel_rfl
theorem made_q (n : Nat) : madeCells #[.int .u8 0] n = (bufQ [] n).toArray := by
 apply Array.ext_getElem?
 intro j; have e0 : bufQ [] n = List.replicate n (.int .u8 0) := by simp [bufQ, u8q, List.map_replicate]
 rw [e0]
 by_cases hj : j < n
 ·rw [show (List.replicate n (Value.int .u8 0)).toArray[j]? = some (Value.int .u8 0) from by rw [List.getElem?_toArray, List.getElem?_replicate, if_pos hj]]; have e : (madeCells #[.int .u8 0] n)[j]? = some (#[Value.int .u8 0][j % 1]!) := by
   unfold madeCells; rw [Array.getElem?_map, Array.getElem?_range, if_pos hj]; rfl
  rw [e, Nat.mod_one]; rfl
 ·rw [Array.getElem?_eq_none (by rw [size_madeCells]; omega), List.getElem?_toArray, List.getElem?_eq_none (by rw [List.length_replicate]; omega)]
theorem make_q (n : Nat) (hn : n ≤ 10000000000000) (w : World) : (Instr.makeSlice 117 (.int .i64 (n : Int)) (.int .i64 (n : Int))).run Tryz.prog w = .ok (.slice (some ⟨w.heap.size, 0, none⟩) n n) (w.alloc (.cells (bufQ [] n).toArray 5)) := by
 obtain ⟨i0, hi, hz0, hz1, hz2⟩ := info_parts infoU8q; have hm := run_make (P := Tryz.prog) w 117 5 i0 (.int .u8 0) Tryz.underlying117 hi hz0 .i64 .i64 (n : Int) (n : Int) (by omega) (by omega) (by rw [hz2]; omega) (by omega); rw [hz1, Int.toNat_natCast, Nat.mul_one] at hm; have e : madeCells (Value.int .u8 0).cells n = (bufQ [] n).toArray := made_q n; rw [e] at hm; exact hm
end Go.Proofs.YtnkpoddbbdmipaaGreatDoor
