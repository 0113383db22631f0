/- . -/
import Derived.Test.YtnkpoddbbdmipaaGreatDoorTApQbl
import Derived.Lib.Strings
import Derived.Lib.Slices
import Derived.Lib.Walk
import Derived.Lib.Bytealg
import Derived.Laws.CopyOwn
import Derived.Deep.WholeRow
import Derived.Test.YtnkpoddbbdmipaaGreatDoorTApKiB
namespace Go.Proofs.YtnkpoddbbdmipaaGreatDoor
open Go Go.RowKit
open Go.Lib (hid)
set_option linter.unusedVariables false
set_option linter.unusedSimpArgs false
set_option maxHeartbeats 1000000 in
set_option maxRecDepth 100000 in
theorem count_one (s : ByteArray) (c : UInt8) (w : World) :
  Calls Tryz.prog 171 #[.string s, .string ⟨#[c]⟩] w fun e w' => e = .returned (.int .i64 ((s.data.toList.count c : Nat) : Int)) ∧ w' = w := by
 go_enter Tryz.func171, Tryz.ntmps171
 go_wp2
 rw [run_callFunc_extern Tryz.func173 (by kernel_rfl) (by kernel_rfl) (by kernel_rfl) (e := Extern.BytealgCount.count) (by kernel_rfl), Lib.run_countString]; simp only [Result.andThen]; rw [Oper.upon_value]
 go_wp2
 go_ret
 exact ⟨rfl, rfl⟩
def escP4 : List UInt8 := [9, 10, 34, 92]
theorem esc1_in {c : UInt8} (h : c ∈ escP4) : (esc1 c).length = 2 := by
 have h : c ∈ ([9, 10, 34, 92] : List UInt8) := h; simp only [List.mem_cons, List.not_mem_nil, or_false] at h
 rcases h with rfl | rfl | rfl | rfl <;> rfl
theorem esc1_out {c : UInt8} (h : c ∉ escP4) : esc1 c = [c] := by
 unfold esc1; have h9 : c.toNat ≠ 9 := fun e => h (by rw [show c = 9 from UInt8.toNat_inj.1 e]; decide)
 have h10 : c.toNat ≠ 10 := fun e => h (by rw [show c = 10 from UInt8.toNat_inj.1 e]; decide)
 have h34 : c.toNat ≠ 34 := fun e => h (by rw [show c = 34 from UInt8.toNat_inj.1 e]; decide)
 have h92 : c.toNat ≠ 92 := fun e => h (by rw [show c = 92 from UInt8.toNat_inj.1 e]; decide)
 rw [if_neg h10, if_neg h9, if_neg (by omega)]
theorem escS_cons' (c : UInt8) (l : List UInt8) : escS (c :: l) = esc1 c ++ escS l := by unfold escS; rw [List.flatMap_cons]
theorem escS_count : ∀ l : List UInt8, (escS l).length = l.length + (escP4.map fun u => l.count u).sum
 | [] => rfl
 | c :: l => by
  rw [escS_cons', List.length_append, escS_count l, List.length_cons]
  by_cases h : c ∈ escP4
  ·rw [esc1_in h]; have h' : c ∈ ([9, 10, 34, 92] : List UInt8) := h; simp only [List.mem_cons, List.not_mem_nil, or_false] at h'
   rcases h' with rfl | rfl | rfl | rfl <;> simp [escP4, List.count_cons] <;> omega
  ·rw [esc1_out h]; have e : ∀ u ∈ escP4, (c :: l).count u = l.count u := fun u hu => by
    rw [List.count_cons, if_neg (by simp; intro e; exact h (e ▸ hu))]; rfl
   rw [List.map_congr_left e]; simp; omega
theorem escS_same : ∀ l : List UInt8, (escS l).length = l.length → escS l = l
 | [], _ => rfl
 | c :: l, h => by
  rw [escS_cons', List.length_append, List.length_cons] at h; have h2 := escS_count l
  by_cases hc : c ∈ escP4
  ·rw [esc1_in hc] at h; omega
  ·rw [escS_cons', esc1_out hc, escS_same l (by rw [esc1_out hc] at h; simp at h; omega)]; rfl
theorem escS_snoc (s : ByteArray) (k : Nat) (h : k < s.size) : escS (s.data.toList.take (k + 1)) = escS (s.data.toList.take k) ++ esc1 s[k] := by
 have e : s.data.toList.take (k + 1) = s.data.toList.take k ++ [s[k]] := by
  rw [List.take_succ_eq_append_getElem (show k < s.data.toList.length from h)]; rfl
 rw [e]; unfold escS; rw [List.flatMap_append, List.flatMap_cons, List.flatMap_nil, List.append_nil]
theorem escS_le (s : ByteArray) (k : Nat) : (escS (s.data.toList.take k)).length ≤ (escS s.data.toList).length := by
 conv => rhs; rw [← List.take_append_drop k s.data.toList]
 unfold escS; rw [List.flatMap_append, List.length_append]; omega
theorem escS_up (l : List UInt8) : l.length ≤ (escS l).length ∧ (escS l).length ≤ 2 * l.length := by
 refine ⟨by rw [escS_count]; omega, ?_⟩
 induction l with
 | nil => simp [escS]
 | cons c l ih =>
  rw [escS_cons', List.length_append, List.length_cons]
  by_cases hc : c ∈ escP4
  ·rw [esc1_in hc]; omega
  ·rw [esc1_out hc]; simp; omega
def u8q (l : List UInt8) : List Value := l.map fun b => Value.int .u8 (b.toNat : Int)
def bufQ (E : List UInt8) (N : Nat) : List Value := u8q (E ++ List.replicate (N - E.length) 0)
theorem bufQ_len {E : List UInt8} {N : Nat} (h : E.length ≤ N) : (bufQ E N).length = N := by simp [bufQ, u8q]; omega
theorem bufQ_set {E : List UInt8} {N : Nat} (c : UInt8) (h : E.length < N) : (bufQ E N).set E.length (.int .u8 (c.toNat : Int)) = bufQ (E ++ [c]) N := by
 unfold bufQ u8q; obtain ⟨m, hm⟩ : ∃ m, N - E.length = m + 1 := ⟨N - E.length - 1, by omega⟩; have hm2 : N - (E ++ [c]).length = m := by simp; omega
 rw [hm, hm2, List.replicate_succ, List.map_append, List.set_append_right _ _ (by simp)]; simp
theorem bufQ_at {E : List UInt8} {N : Nat} (h : E.length < N) : (bufQ E N)[E.length]? = some (.int .u8 0) := by
 unfold bufQ u8q; obtain ⟨m, hm⟩ : ∃ m, N - E.length = m + 1 := ⟨N - E.length - 1, by omega⟩; rw [hm, List.replicate_succ, List.map_append, List.getElem?_append_right (by simp)]; simp
theorem bufQ_splice {E : List UInt8} {N : Nat} (a b : UInt8) (h : E.length + 2 ≤ N) : splice (bufQ E N) E.length (u8q [a, b]) = bufQ (E ++ [a, b]) N := by
 unfold splice bufQ u8q; obtain ⟨m, hm⟩ : ∃ m, N - E.length = m + 2 := ⟨N - E.length - 2, by omega⟩; have hm2 : N - (E ++ [a, b]).length = m := by simp; omega
 rw [hm, hm2, List.replicate_succ, List.replicate_succ, List.map_append]; simp [List.drop_append, List.take_append]
theorem bufQ_cell {w : World} {G : Nat} {l : List UInt8} {T : TypeId} (h : w.heap[G]? = some (.cells (bufQ l l.length).toArray T (0, 0))) (j : Nat) (hj : j < l.length) : w.cell? ⟨G, j, none⟩ = some (.int .u8 (l[j].toNat : Int)) := by
 simp only [World.cell?, h]; simp [bufQ, u8q, hj]
theorem wpList_copy_only {P : Program} {ops : Array Oper} {rest : List Oper} {o : Oper} {a : Act} {w : World} {Q : Exit → Act → World → Prop} (hgd : o.guard = none) (d s : Operand) (dT sT : TypeId)
  (ho : o.op = .call { callee := .builtin .copy, args := #[d, s], argTypes := #[dT, sT] }) (elem : TypeId) (hu : P.underlying dT = some (.slice elem)) (hsz : (P.info? elem).map (·.size) = some 1)
  (dp sp : Option Addr) (dLen dCap sLen sCap : Nat) (hd : a.eval d = .slice dp dLen dCap) (hs : a.eval s = .slice sp sLen sCap)
  (g off : Nat) (cur : List Value) (t : TypeId) (hg : w.heap[g]? = some (.cells cur.toArray t (0, 0))) (cs : List Value) (hn : cs.length = Nat.min sLen dLen)
  (hpos : 0 < cs.length → dp = some ⟨g, off, none⟩ ∧ ∃ ad, sp = some ad ∧ ∀ j v, cs[j]? = some v → w.cell? (ad.add j) = some v)
  (hfit : off + cs.length ≤ cur.length) (h1 : ∀ v ∈ cs, v.oneCell' = true)
  (h : ∀ w', w'.heap[g]? = some (.cells (splice cur off cs).toArray t (0, 0)) → Only (fun k => k = g) w w' → wpList P ops Q rest (a.put o.dst (goInt cs.length)) w') : wpList P ops Q (o :: rest) a w := by
 by_cases h0 : cs.length = 0
 ·obtain rfl : cs = [] := List.eq_nil_of_length_eq_zero h0; refine wpList_copy_nothing hgd d s dT sT ho elem hu hsz dp sp dLen dCap sLen sCap hd hs (by simpa using hn.symm) ?_
  exact h w (by simpa [splice] using hg) oR
 ·obtain ⟨rfl, ad, rfl, hsrc⟩ := hpos (by omega); refine wpList_copy_own hgd d s dT sT ho elem hu hsz g off dLen dCap ad sLen sCap hd hs cur.toArray t hg cs hn hsrc (by simpa using hfit) h1 ?_
  exact h _ (by simpa [splice] using setRow_heap w g _ _ t _ hg) ⟨rfl, rfl, rfl, by simp [World.setRow], fun k _ hk => setRow_other w g k _ hk⟩
theorem sizeQ : (Tryz.prog.info? 5).map (·.size) = some 1 := by kernel_rfl
theorem infoU8q : (Tryz.prog.info? 5).map (fun i => (i.zero, i.size, i.bytes)) = some (some (.int .u8 0), 1, 1) := by kernel_rfl
theorem made_q (n : Nat) : madeCells #[.int .u8 0] n = (bufQ [] n).toArray := by
 apply Array.ext_getElem?
 intro j; have e0 : bufQ [] n = List.replicate n (.int .u8 0) := by simp [bufQ, u8q, List.map_replicate]
 rw [e0]
 by_cases hj : j < n
 ·rw [show (List.replicate n (Value.int .u8 0)).toArray[j]? = some (Value.int .u8 0) from by rw [List.getElem?_toArray, List.getElem?_replicate, if_pos hj]]; have e : (madeCells #[.int .u8 0] n)[j]? = some (#[Value.int .u8 0][j % 1]!) := by
   unfold madeCells; rw [Array.getElem?_map, Array.getElem?_range, if_pos hj]; rfl
  rw [e, Nat.mod_one]; rfl
 ·rw [Array.getElem?_eq_none (by rw [size_madeCells]; omega), List.getElem?_toArray, List.getElem?_eq_none (by rw [List.length_replicate]; omega)]
theorem make_q (n : Nat) (hn : n ≤ 10000000000000) (w : World) : (Instr.makeSlice 117 (.int .i64 (n : Int)) (.int .i64 (n : Int))).run Tryz.prog w = .ok (.slice (some ⟨w.heap.size, 0, none⟩) n n) (w.alloc (.cells (bufQ [] n).toArray 5)) := by
 obtain ⟨i0, hi, hz0, hz1, hz2⟩ := info_parts infoU8q; have hm := run_make (P := Tryz.prog) w 117 5 i0 (.int .u8 0) Tryz.underlying117 hi hz0 .i64 .i64 (n : Int) (n : Int) (by omega) (by omega) (by rw [hz2]; omega) (by omega); rw [hz1, Int.toNat_natCast, Nat.mul_one] at hm; have e : madeCells (Value.int .u8 0).cells n = (bufQ [] n).toArray := made_q n; rw [e] at hm; exact hm
theorem RepF.still {w w' : World} {B X : Nat} {P : List UInt8} {f : Nat → Value} {tv : Value} (h : RepF w B X P f tv) (o : Only (fun _ => False) w w') : RepF w' B X P f tv := by
 refine ⟨kB o h.box (fun e => e), h.low, own_only' h.own o (fun _ _ e => e), h.apart, fun u hu => ?_, h.no⟩
 obtain ⟨g, k, z, e1, e2, e3, e4, e5, e6, e7, e8, e9, e10⟩ := h.yes u hu; exact ⟨g, k, z, e1, e2, Nat.lt_of_lt_of_le e3 o.size, e4, e5, e6, e7, e8, (cell_keep (p := ⟨g, 0, none⟩) o e3 (fun e => e)).trans e9, (cell_keep (p := ⟨g, 1, none⟩) o e3 (fun e => e)).trans e10⟩
def cntQ (l : List UInt8) (j : Nat) : Nat := ((escP4.take j).map fun u => l.count u).sum
theorem cntQ_next (l : List UInt8) (j : Nat) (h : j < escP4.length) : cntQ l (j + 1) = cntQ l j + l.count escP4[j] := by
 unfold cntQ; rw [List.take_succ_eq_append_getElem h, List.map_append, List.sum_append, List.map_singleton, List.sum_singleton]
theorem cntQ_all (l : List UInt8) : (escS l).length = l.length + cntQ l 4 := escS_count l
theorem cntQ_le (l : List UInt8) (j : Nat) (h : j < escP4.length) : cntQ l j + l.count escP4[j] ≤ 4 * l.length := by
 have h : j < 4 := h; have hc : ∀ u : UInt8, l.count u ≤ l.length := fun u => List.count_le_length
 have h0 : ∀ j, j ≤ 4 → cntQ l j ≤ j * l.length := fun j => by
  induction j with
  | zero => intro _; simp [cntQ]
  | succ j ih =>
   intro hj; rw [cntQ_next l j (by show j < 4; omega)]; have := ih (by omega); have := hc (escP4[j]'(by show j < 4; omega)); rw [Nat.succ_mul]; omega
 have := h0 j (by omega); have := hc (escP4[j]'(by show j < 4; omega)); have : j * l.length ≤ 3 * l.length := Nat.mul_le_mul_right _ (by omega); omega
set_option maxRecDepth 100000 in
set_option maxHeartbeats 8000000 in
theorem repl_any (B X : Nat) (f : Nat → Value) (tv : Value) (s : ByteArray) (hs : s.size ≤ 1000000000000) (w : World) (hr : RepF w B X escP4 f tv) :
  Calls Tryz.prog 169 #[.pointer (some ⟨X, 0, none⟩), .string s] w fun e w' => e = .returned (.string ⟨(escS s.data.toList).toArray⟩) ∧ Only (fun _ => False) w w' := by
 obtain ⟨N, hN⟩ := eX ((escS s.data.toList).length); have hup := escS_up s.data.toList; rw [hN] at hup; have hsl : s.data.toList.length = s.size := rfl; rw [hsl] at hup; obtain ⟨hN1, hN2⟩ := hup; have hX := (gE hr.box).1; obtain ⟨g, ct, rfl, hBg, hgw, hcell⟩ := own_range hr.own (by decide); have ht2' : ct ≤ 9223372036854775807 ∧ 4 ≤ ct := by
  obtain ⟨a', c', e, h1, h2, -⟩ := own_form hr.own
  injection e with _ _ e
  subst e; unfold maxLen at h2; exact ⟨by omega, h1⟩
 obtain ⟨ht2', ht1⟩ := ht2'; have cv : w.cell? ⟨X, 256, none⟩ = some (.slice (some ⟨g, 0, none⟩) 4 ct) := hr.getv; have HC := hid hcell; have HR := hid hr; have HN := hid hN; have HSL := hid hsl; have eqn := neq_nilQ; clear hcell hr hsl hN
 go_enter Tryz.func169, Tryz.ntmps169
 go_upto_if 26 with (fail)
 go_cut [5, 6] from 16 to 80 (fun v5 v6 w' => v5 = .int .i64 (N : Int) ∧ v6 = .bool (decide (N ≠ s.size)) ∧ Hid (Only (fun _ => False) w w'))
 case first =>
  by_cases h32 : 32 ≤ s.size
  ·have t1 : decide ((32 : Int) ≤ (s.size : Int)) = true := decide_eq_true (by omega); rw [t1]
   go_wp2_with fail
   go_loopw [5, 6, 32] (fun v5 v6 y wr => ∃ j M : Nat, ∃ bb : Bool, y = .int .i64 (j : Int) ∧ v5 = .int .i64 (M : Int) ∧ v6 = .bool bb ∧ Hid (j ≤ 4 ∧ M = s.size + cntQ s.data.toList j ∧ bb = decide (cntQ s.data.toList j ≠ 0) ∧ Only (fun _ => False) w wr)) (fun _ _ y _ => 4 - (intOf y).toNat)
   case atStart => exact ⟨0, s.size, false, rfl, rfl, rfl, hid ⟨by omega, rfl, rfl, oR⟩⟩
   case round =>
    obtain ⟨j, M, bb, rfl, rfl, rfl, hjj⟩ := hrel; obtain ⟨hj4, hM, hbb, how⟩ := hjj.out; have HM := hid hM; have HBB := hid hbb; have HO := hid how; have HRW := hid (HR.out.still how); have cv := HRW.out.getv; clear hjj hM hbb how
    by_cases hj : j < 4
    ·have t2 : decide ((j : Int) < 4) = true := decide_eq_true (by omega); have hj' : j < escP4.length := hj; obtain ⟨u, hu⟩ := eX (escP4[j]); have hum : u ∈ escP4 := by rw [← hu]; exact List.getElem_mem _
     have hcj : wr.cell? ⟨g, j, none⟩ = some (.string ⟨#[u]⟩) := by
      rw [cell_keep (p := ⟨g, j, none⟩) HO.out hgw (fun e => e)]; have := HC.out j (.string ⟨#[u]⟩) (by rw [List.getElem?_map, List.getElem?_eq_getElem hj', hu]; rfl); rwa [Nat.zero_add] at this
     have J := hid (count_one s u wr); have hle := cntQ_le s.data.toList j hj'; have hnx := cntQ_next s.data.toList j hj'; rw [hu] at hle hnx; rw [HSL.out] at hle; obtain ⟨c, hc⟩ := eX (s.data.toList.count u); rw [hc] at J hle hnx; have hMb : M + c ≤ 5000000000000 := by have := HM.out; omega
     have HNX := hid hnx; obtain ⟨gu, ku, zu, e1, e2, e3, e4, e5, e6, e7, e8, e9, e10⟩ := HRW.out.yes u hum; have hcu : wr.cell? ⟨X, u.toNat, none⟩ = some (.slice (some ⟨gu, 0, none⟩) 2 ku) := by rw [HRW.out.get (UInt8.toNat_lt u), e1]
     have hu256 : u.toNat < 256 := UInt8.toNat_lt u; have hx0 : ((⟨#[u]⟩ : ByteArray)[0]'(show 0 < 1 by decide)) = u := rfl; clear hle hnx hc e1 e2 e3 e4 e5 e8 e9 e10 hu hum hj'
     go_wp2_with fail
     refine J.out.mono ?_
     rintro e w1 ⟨rfl, hw⟩; rw [hw]; clear hw
     by_cases hc0 : c = 0
     ·have t3 : ((c : Int) != 0) = false := by simp [hc0]
      have HNEW := hid (show j + 1 ≤ 4 ∧ M = s.size + cntQ s.data.toList (j + 1) ∧ bb = decide (cntQ s.data.toList (j + 1) ≠ 0) ∧ Only (fun _ => False) w wr from ⟨by omega, by rw [HNX.out, hc0]; exact HM.out, by rw [HNX.out, hc0]; exact HBB.out, HO.out⟩); clear hc0 J HM HBB HNX
      go_wp2_with fail
      go_roundw
      case rel => exact ⟨j + 1, M, bb, by simp, rfl, rfl, HNEW⟩
      case measure => simp [intOf]; omega
     ·have t3 : ((c : Int) != 0) = true := by simp; omega
      have HNEW := hid (show j + 1 ≤ 4 ∧ M + c = s.size + cntQ s.data.toList (j + 1) ∧ true = decide (cntQ s.data.toList (j + 1) ≠ 0) ∧ Only (fun _ => False) w wr from ⟨by omega, by rw [HNX.out]; have := HM.out; omega, by rw [HNX.out]; symm; exact decide_eq_true (by omega), HO.out⟩); clear hc0 J HM HBB HNX
      go_upto_region 9 with (fail)
      go_quiet (fail)
      go_wp2_with fail
      go_roundw
      case rel => exact ⟨j + 1, M + c, true, by simp, by simp, rfl, hid ⟨HNEW.out.1, HNEW.out.2.1, HNEW.out.2.2.1, HNEW.out.2.2.2.drewN _⟩⟩
      case measure => simp [intOf]; omega
    ·have t2 : decide ((j : Int) < 4) = false := decide_eq_false (by omega); have hj4' : j = 4 := by omega
     subst hj4'; have hMN : M = N := by have h1 := HM.out; have h2 := cntQ_all s.data.toList; rw [HN.out, HSL.out] at h2; omega
     have hbN : bb = decide (N ≠ s.size) := by
      rw [HBB.out]; have h2 := cntQ_all s.data.toList; rw [HN.out, HSL.out] at h2; exact decide_eq_decide.2 (by omega)
     have HO2 := HO; clear HM HBB
     go_wp2_with fail
     go_meet
     case rel => exact ⟨by rw [hMN], by rw [hbN], HO2⟩
  ·have t1 : decide ((32 : Int) ≤ (s.size : Int)) = false := decide_eq_false (by omega); rw [t1]
   go_wp2_with fail
   go_loopw [5, 6, 10] (fun v5 v6 y wr => ∃ k M : Nat, ∃ bb : Bool, y = .int .i64 (k : Int) ∧ v5 = .int .i64 (M : Int) ∧ v6 = .bool bb ∧ Hid (k ≤ s.size ∧ M + k = s.size + (escS (s.data.toList.take k)).length ∧ bb = decide ((escS (s.data.toList.take k)).length ≠ k) ∧ Only (fun _ => False) w wr)) (fun _ _ y _ => s.size - (intOf y).toNat)
   case atStart => exact ⟨0, s.size, false, rfl, rfl, rfl, hid ⟨by omega, rfl, rfl, oR⟩⟩
   case round =>
    obtain ⟨k, M, bb, rfl, rfl, rfl, hjj⟩ := hrel; obtain ⟨hk, hM, hbb, how⟩ := hjj.out; have HM := hid hM; have HBB := hid hbb; have HO := hid how; have HRW := hid (HR.out.still how); have cv := HRW.out.getv; clear hjj hM hbb how; have hel := escS_le s k; rw [HN.out] at hel; have hMb : M ≤ 5000000000000 := by have := HM.out; omega
    by_cases hlt : k < s.size
    ·have t2 : decide ((k : Int) < (s.size : Int)) = true := decide_eq_true (by omega); have hnx := escS_snoc s k hlt; have hge : k ≤ (escS (s.data.toList.take k)).length := by
      have := (escS_up (s.data.toList.take k)).1; rw [List.length_take, HSL.out] at this; omega
     have HNX := hid hnx; have HGE := hid hge; have hu256 : s[k].toNat < 256 := UInt8.toNat_lt _; clear hnx hge hel
     by_cases hc : s[k] ∈ escP4
     ·obtain ⟨gu, ku, zu, e1, e2, e3, e4, e5, e6, e7, e8, e9, e10⟩ := HRW.out.yes _ hc; have hcu : wr.cell? ⟨X, s[k].toNat, none⟩ = some (.slice (some ⟨gu, 0, none⟩) 2 ku) := by rw [HRW.out.get (UInt8.toNat_lt _), e1]
      have HNEW := hid (show k + 1 ≤ s.size ∧ (M + 1) + (k + 1) = s.size + (escS (s.data.toList.take (k + 1))).length ∧ true = decide ((escS (s.data.toList.take (k + 1))).length ≠ k + 1) ∧ Only (fun _ => False) w wr from ⟨by omega, by rw [HNX.out, List.length_append, e8]; have := HM.out; simp; omega, by rw [HNX.out, List.length_append, e8]; symm; refine decide_eq_true ?_; have := HGE.out; simp; omega, HO.out⟩); clear e1 e2 e3 e4 e5 e8 e9 e10 hc HM HBB HNX HGE
      go_wp2_with fail
      go_roundw
      case rel => exact ⟨k + 1, M + 1, true, by simp, by simp, rfl, HNEW⟩
      case measure => simp [intOf]; omega
     ·have hcu : wr.cell? ⟨X, s[k].toNat, none⟩ = some (.slice none 0 0) := by
       rw [HRW.out.get (UInt8.toNat_lt _), HRW.out.no _ (fun u hu e => hc (by rw [← UInt8.toNat_inj.1 e]; exact hu))]
      have HNEW := hid (show k + 1 ≤ s.size ∧ M + (k + 1) = s.size + (escS (s.data.toList.take (k + 1))).length ∧ bb = decide ((escS (s.data.toList.take (k + 1))).length ≠ k + 1) ∧ Only (fun _ => False) w wr from ⟨by omega, by rw [HNX.out, List.length_append, esc1_out hc]; have := HM.out; simp; omega, by rw [HBB.out, HNX.out, List.length_append, esc1_out hc]; refine decide_eq_decide.2 ?_; simp, HO.out⟩); clear hc HM HBB HNX HGE
      go_wp2_with fail
      go_roundw
      case rel => exact ⟨k + 1, M, bb, by simp, rfl, rfl, HNEW⟩
      case measure => simp [intOf]; omega
    ·have t2 : decide ((k : Int) < (s.size : Int)) = false := decide_eq_false (by omega); have hke : k = s.size := by omega
     subst hke; have ht : s.data.toList.take s.size = s.data.toList := List.take_length; have hMN : M = N := by have h1 := HM.out; rw [ht, HN.out] at h1; omega
     have hbN : bb = decide (N ≠ s.size) := by rw [HBB.out, ht, HN.out]
     have HO2 := HO; clear HM HBB ht hel
     go_wp2_with fail
     go_meet
     case rel => exact ⟨by rw [hMN], by rw [hbN], HO2⟩
 case rest =>
  obtain ⟨rfl, rfl, ho⟩ := hcut; obtain ⟨w1, hw1⟩ := eX (wc); rw [hw1] at ho ⊢; have HO1 := ho; have HR1 := hid (HR.out.still ho.out); clear hw1 ho cv HC hgw
  by_cases hns : N = s.size
  ·have t3 : decide (N ≠ s.size) = false := decide_eq_false (by omega); rw [t3]; have he := escS_same s.data.toList (by rw [HN.out, HSL.out, hns]); have HE := hid he; clear he
   go_wp2_with fail
   go_ret
   exact ⟨by rw [HE.out]; rfl, HO1.out⟩
  ·have t3 : decide (N ≠ s.size) = true := decide_eq_true hns; rw [t3]; obtain ⟨G, hG⟩ := eX (w1.heap.size); obtain ⟨w2, hw2⟩ := eX (w1.alloc (.cells (bufQ [] N).toArray 5)); have hmk := make_q N (by omega) w1; rw [hw2, hG] at hmk; have h2 : w2.heap[G]? = some (.cells (bufQ [] N).toArray 5 (0, 0)) := by rw [← hw2, ← hG]; exact heap_new _ _
   have o2 : Only (fun _ => False) w1 w2 := by rw [← hw2]; exact (Only.refl _ w1).alloc _
   have hGw : w.heap.size ≤ G := by have := HO1.out.size; omega
   have HI := hid h2; have HO2 := hid (HO1.out.trans o2); have HG := hid hG; clear h2 o2 hw2 hG HO1 HR1 hns
   go_wp2_with fail
   go_loopw [13, 14] (fun vj vi wr => ∃ k J : Nat, vi = .int .i64 (k : Int) ∧ vj = .int .i64 (J : Int) ∧ Hid (k ≤ s.size ∧ J = (escS (s.data.toList.take k)).length ∧ wr.heap[G]? = some (.cells (bufQ (escS (s.data.toList.take k)) N).toArray 5 (0, 0)) ∧ Only (fun _ => False) w wr)) (fun _ y _ => s.size - (intOf y).toNat)
   case atStart => exact ⟨0, 0, rfl, rfl, hid ⟨by omega, rfl, HI.out, HO2.out⟩⟩
   case round =>
    obtain ⟨k, J, rfl, rfl, hjj⟩ := hrel; obtain ⟨hk, hJ, hB, how⟩ := hjj.out; have HJ := hid hJ; have HB := hid hB; have HO := hid how; have HRW := hid (HR.out.still how); clear hjj hJ hB how HI HO2 hmk; have hel := escS_le s k; rw [HN.out, ← HJ.out] at hel
    by_cases hlt : k < s.size
    ·have t4 : decide ((k : Int) < (s.size : Int)) = true := decide_eq_true (by omega); have hnx := escS_snoc s k hlt; have hel2 := escS_le s (k + 1); rw [HN.out, hnx, List.length_append, ← HJ.out] at hel2; have HNX := hid hnx; have hu256 : s[k].toNat < 256 := UInt8.toNat_lt _; have hblt : G < wr.heap.size := (gE HB.out).1; clear hnx
     by_cases hc : s[k] ∈ escP4
     ·obtain ⟨gu, ku, zu, e1, e2, e3, e4, e5, e6, e7, e8, e9, e10⟩ := HRW.out.yes _ hc; have hcu : wr.cell? ⟨X, s[k].toNat, none⟩ = some (.slice (some ⟨gu, 0, none⟩) 2 ku) := by rw [HRW.out.get (UInt8.toNat_lt _), e1]
      rw [e8] at hel2; have hel3 : J + 2 ≤ N := hel2; have hgG : gu ≠ G := fun e => by
       have h1 := (HR.out.yes _ hc); obtain ⟨gu', _, _, f1, _, f3, _⟩ := h1; rw [e1] at f1
       injection f1 with f1 _ _
       injection f1 with f1; injection f1 with f1 _ _
       omega
      have hsp := bufQ_splice (E := escS (s.data.toList.take k)) (N := N) 92 zu (by rw [← HJ.out]; exact hel3); have HSP := hid hsp; have E3 := hid e3; have E9 := hid e9; have E10 := hid e10; have E8 := hid e8; have HCU := hid hcu; have HXw := hid (show X < wr.heap.size from Nat.lt_of_lt_of_le hX HO.out.size); have hXG : X ≠ G := by omega
      have hbl := bufQ_len (E := escS (s.data.toList.take k)) (N := N) (by rw [← HJ.out]; exact hel); have HBL := hid hbl; clear e1 e3 e4 e5 e8 e9 e10 hsp hbl hel2
      go_upto_region 28 with (fail)
      clear hcu; refine wp_region_stepsM 12 (by kernel_rfl) rfl (by kernel_rfl) [some 102, some 103, some 104, some 105, some 106, some 107, some 108, some 109, some 110, some 111, some 112, some 113] rfl rfl 10 13 (fun q => q = G) (fun _ => False) [11, 12] (by kernel_rfl) [1, 2, 3, 4, 5, 6, 7, 8, 9] (by kernel_rfl) (by decide) (by decide) (.inl (by decide)) [(fun v _ => v = (.int .i64 (J : Int))), (fun v _ => v = (.slice (some ⟨G, 0, none⟩) N N)), (fun v _ => v = (.int .i64 (J : Int))), (fun v _ => v = (.slice (some ⟨G, J, none⟩) (N - J) (N - J))), (fun v _ => v = (.pointer (some ⟨X, 0, none⟩))), (fun v _ => v = (.int .u8 (s[k].toNat : Int))), (fun v _ => v = (.pointer (some ⟨X, 0, none⟩))), (fun v _ => v = (.pointer (some ⟨X, 0, none⟩))), (fun v _ => v = (.pointer (some ⟨X, s[k].toNat, none⟩))), (fun v _ => v = (.slice (some ⟨gu, 0, none⟩) 2 ku)), (fun v w2 => v = .int .i64 2 ∧ w2.heap[G]? = some (.cells (bufQ (escS (s.data.toList.take (k + 1))) N).toArray 5 (0, 0))), (fun v _ => v = (.int .i64 ((J : Int) + 2)))] rfl ⟨?_, ?_, ?_, ?_, ?_, ?_, ?_, ?_, ?_, ?_, ?_, ?_, trivial⟩ _ rfl ⟨?_, ?_, ?_, ?_, ?_, ?_, ?_, ?_, ?_, ?_, ?_, ?_, trivial⟩ ?_
      iterate 10 exact Stable.is _ _
      ·intro v w1 w2 h ho; have ho : Only (fun _ => False) w1 w2 := ho; exact (by exact ⟨h.1, kB ho h.2 (fun h => h)⟩)
      ·exact Stable.is _ _
      ·intro x wx ox hN TT HTT; have ox : Only (fun q => (fun q => q = G) q ∨ (fun _ => False) q) _ wx := ox; unfold StepTo; simp only [putAll, Act.put, zA, zB, zC]; clear hN
       go_wp2_with fail
       exact ⟨rfl, _, rfl, HTT.out _ _ rfl oR⟩
      ·intro x wx ox hN TT HTT; have ox : Only (fun _ => False) _ wx := ox; unfold StepTo; simp only [putAll, Act.put, zA, zB, zC]; clear hN
       go_wp2_with fail
       exact ⟨rfl, _, rfl, HTT.out _ _ rfl oR⟩
      ·intro x wx ox hN TT HTT; have ox : Only (fun _ => False) _ wx := ox; unfold StepTo; simp only [putAll, Act.put, zA, zB, zC]; clear hN
       go_wp2_with fail
       exact ⟨rfl, _, rfl, HTT.out _ _ rfl oR⟩
      ·intro x wx ox hN TT HTT; have ox : Only (fun _ => False) _ wx := ox; unfold StepTo; simp only [putAll, Act.put, zA, zB, zC, eI (hN.1 rfl), eI (hN.2.1 rfl)]; clear hN
       go_wp2_with fail
       exact ⟨rfl, _, rfl, HTT.out _ _ rfl oR⟩
      ·intro x wx ox hN TT HTT; have ox : Only (fun _ => False) _ wx := ox; unfold StepTo; simp only [putAll, Act.put, zA, zB, zC]; clear hN
       go_wp2_with fail
       exact ⟨rfl, _, rfl, HTT.out _ _ rfl oR⟩
      ·intro x wx ox hN TT HTT; have ox : Only (fun _ => False) _ wx := ox; unfold StepTo; simp only [putAll, Act.put, zA, zB, zC]; clear hN
       go_wp2_with fail
       exact ⟨rfl, _, rfl, HTT.out _ _ rfl oR⟩
      ·intro x wx ox hN TT HTT; have ox : Only (fun _ => False) _ wx := ox; unfold StepTo; simp only [putAll, Act.put, zA, zB, zC, eI (hN.1 rfl)]; clear hN
       go_wp2_with fail
       exact ⟨rfl, _, rfl, HTT.out _ _ rfl oR⟩
      ·intro x wx ox hN TT HTT; have ox : Only (fun _ => False) _ wx := ox; unfold StepTo; simp only [putAll, Act.put, zA, zB, zC, eI (hN.1 rfl)]; clear hN
       go_wp2_with fail
       exact ⟨rfl, _, rfl, HTT.out _ _ rfl oR⟩
      ·intro x wx ox hN TT HTT; have ox : Only (fun _ => False) _ wx := ox; unfold StepTo; simp only [putAll, Act.put, zA, zB, zC, eI (hN.1 rfl), eI (hN.2.1 rfl)]; clear hN
       go_wp2_with fail
       exact ⟨rfl, _, rfl, HTT.out _ _ rfl oR⟩
      ·intro x wx ox hN TT HTT; have ox : Only (fun _ => False) _ wx := ox; unfold StepTo; simp only [putAll, Act.put, zA, zB, zC, eI (hN.1 rfl)]; clear hN; have hcu := (cell_keep (p := ⟨X, s[k].toNat, none⟩) ox HXw.out (by intro h; first | exact hXG h | exact h | (rcases h with h | h <;> first | exact hXG h | exact h))).trans HCU.out
       go_wp2_with fail
       exact ⟨rfl, _, rfl, HTT.out _ _ rfl oR⟩
      ·intro x wx ox hN TT HTT; have ox : Only (fun _ => False) _ wx := ox; unfold StepTo; simp only [putAll, Act.put, zA, zB, zC, eI (hN.1 rfl), eI (hN.2.1 rfl)]; clear hN; have hB := (ox.block G hblt (fun h => h)).trans HB.out; have k0 := (cell_keep (p := ⟨gu, 0, none⟩) ox E3.out (fun h => h)).trans E9.out; have k1 := (cell_keep (p := ⟨gu, 1, none⟩) ox E3.out (fun h => h)).trans E10.out
       go_wp2_with ((refine wpList_copy_only (o := ⟨some 112, _, _, _, _, _⟩) rfl (.tmp 105) (.tmp 111) 117 117 (by rfl) 5 Tryz.underlying117 sizeQ (some ⟨G, J, none⟩) (some ⟨gu, 0, none⟩) (N - J) (N - J) 2 ku (by rfl) (by rfl) G J (bufQ (escS (s.data.toList.take k)) N) 5 hB (u8q [92, zu]) (by show 2 = Nat.min 2 (N - J); exact (Nat.min_eq_left (by omega)).symm) (fun _ => ⟨rfl, _, rfl, fun j v hv => by rw [addr_add]; match j, hv with | 0, hv => exact k0.trans (by injection hv with hv; subst hv; rfl) | 1, hv => exact k1.trans (by injection hv with hv; subst hv; rfl)⟩) (by rw [HBL.out]; exact hel3) (by intro u hu; simp [u8q] at hu; rcases hu with rfl | rfl <;> rfl) ?_; intro w9 q1 q2))
       rw [HJ.out, HSP.out] at q1; exact ⟨rfl, _, rfl, HTT.out _ _ (⟨rfl, by rw [HNX.out, E8.out]; exact q1⟩) (q2)⟩
      ·intro x wx ox hN TT HTT; have ox : Only (fun q => (fun q => q = G) q ∨ (fun _ => False) q) _ wx := ox; have r112 : (fun (v : Value) (w2 : World) => v = .int .i64 2 ∧ w2.heap[G]? = some (.cells (bufQ (escS (s.data.toList.take (k + 1))) N).toArray 5 (0, 0))) (x 10) wx := hN.2.1 rfl; unfold StepTo; simp only [putAll, Act.put, zA, zB, zC, eI (hN.1 rfl)]; clear hN
       go_wp2_with fail
       exact ⟨rfl, _, rfl, HTT.out _ _ rfl oR⟩
      intro xz wxz oxz hN; have oxz : Only (fun q => (fun q => q = G) q ∨ (fun _ => False) q) _ wxz := oxz; have r112 : (fun (v : Value) (w2 : World) => v = .int .i64 2 ∧ w2.heap[G]? = some (.cells (bufQ (escS (s.data.toList.take (k + 1))) N).toArray 5 (0, 0))) (xz 10) wxz := hN.2.2.2.2.2.2.2.2.2.2.1; simp only [putAll, Act.put, zA, zB, zC, eI hN.1, eI hN.2.1, eI hN.2.2.1, eI hN.2.2.2.1, eI hN.2.2.2.2.1, eI hN.2.2.2.2.2.1, eI hN.2.2.2.2.2.2.1, eI hN.2.2.2.2.2.2.2.1, eI hN.2.2.2.2.2.2.2.2.1, eI hN.2.2.2.2.2.2.2.2.2.1, eI hN.2.2.2.2.2.2.2.2.2.2.2.1]; clear hN; have HNEW := hid (show k + 1 ≤ s.size ∧ J + 2 = (escS (s.data.toList.take (k + 1))).length ∧ wxz.heap[G]? = some (.cells (bufQ (escS (s.data.toList.take (k + 1))) N).toArray 5 (0, 0)) ∧ Only (fun _ => False) w wxz from ⟨by omega, by rw [HNX.out, List.length_append, E8.out, ← HJ.out]; rfl, r112.2, (HO.out.drew).trans' oxz (fun q hq e => by rcases e with e | e; (have e : q = G := e; omega); exact e)⟩); clear r112 oxz HSP E3 E9 E10 E8 HCU HXw HBL HNX hc hel HJ HB HRW
      go_wp2_with fail
      go_roundw
      case rel => exact ⟨k + 1, J + 2, by simp, by simp, HNEW⟩
      case measure => simp [intOf]; omega
     ·have hcu : wr.cell? ⟨X, s[k].toNat, none⟩ = some (.slice none 0 0) := by
       rw [HRW.out.get (UInt8.toNat_lt _), HRW.out.no _ (fun u hu e => hc (by rw [← UInt8.toNat_inj.1 e]; exact hu))]
      rw [esc1_out hc] at hel2; have hel3 : J + 1 ≤ N := hel2; have hcg : wr.cell? ⟨G, J, none⟩ = some (.int .u8 0) := by
       simp only [World.cell?, HB.out]; have := bufQ_at (E := escS (s.data.toList.take k)) (N := N) (by rw [← HJ.out]; omega); rw [HJ.out]; simpa using this
      have hfz : wr.frozen? ⟨G, J, none⟩ = false := by simp [World.frozen?, HB.out]
      have hb2 := heap_set (o := J) HB.out (.int .u8 (s[k].toNat : Int)); rw [List.setIfInBounds_toArray, HJ.out, bufQ_set s[k] (by rw [← HJ.out]; omega)] at hb2; have HNEW := hid (show k + 1 ≤ s.size ∧ J + 1 = (escS (s.data.toList.take (k + 1))).length ∧ (wr.setCell ⟨G, J, none⟩ (.int .u8 (s[k].toNat : Int))).heap[G]? = some (.cells (bufQ (escS (s.data.toList.take (k + 1))) N).toArray 5 (0, 0)) ∧ Only (fun _ => False) w (wr.setCell ⟨G, J, none⟩ (.int .u8 (s[k].toNat : Int))) from ⟨by omega, by rw [HNX.out, List.length_append, esc1_out hc, ← HJ.out]; rfl, by rw [HNX.out, esc1_out hc, HJ.out]; exact hb2, HO.out.setCell (p := ⟨G, J, none⟩) (.inr hGw) _⟩); clear hb2 hc HNX hel hel2
      go_wp2_with fail
      go_roundw
      case rel => exact ⟨k + 1, J + 1, by simp, by simp, HNEW⟩
      case measure => simp [intOf]; omega
    ·have t4 : decide ((k : Int) < (s.size : Int)) = false := decide_eq_false (by omega); have hke : k = s.size := by omega
     subst hke; have ht : s.data.toList.take s.size = s.data.toList := List.take_length; have hb2 := HB.out; rw [ht] at hb2; have hJN : J = N := by rw [HJ.out, ht, HN.out]
     have cB : (convert 117 9 (.slice (some ⟨G, 0, none⟩) N N)).run Tryz.prog wr = .ok (.string ⟨(escS s.data.toList).toArray⟩) wr := by
      have hb3 := hb2; rw [← HN.out] at hb3 ⊢; exact run_convert_bytes_back _ _ _ 5 _ _ (escS s.data.toList) (by kernel_rfl) (by kernel_rfl) (by kernel_rfl) (fun j hj => by rw [addr_add, Nat.zero_add]; exact bufQ_cell hb3 j hj)
     have HO3 := HO; obtain ⟨res, hres⟩ := eX (escS s.data.toList); rw [hres] at cB; have HRES := hid hres; clear ht hb2 hJN hres HB HRW HJ hel
     go_wp2_with fail
     go_ret
     rw [HRES.out]; exact ⟨rfl, HO3.out⟩
theorem RepF.past {w w' : World} {B X b : Nat} {P : List UInt8} {f : Nat → Value} {tv : Value} (h : RepF w B X P f tv) (hb : b < B) (o : Only (fun k => k = b) w w') : RepF w' B X P f tv := by
 have hlow := h.low; refine ⟨kB o h.box (fun e => by have e : X = b := e; omega), h.low, own_only' h.own o (fun k hk e => ?_), h.apart, fun u hu => ?_, h.no⟩
 ·obtain ⟨_, _, _, _, _, h3⟩ := own_form h.own; have := (h3 k hk).1; have e : k = b := e; omega
 ·obtain ⟨g, k, z, e1, e2, e3, e4, e5, e6, e7, e8, e9, e10⟩ := h.yes u hu; have hg : g ≠ b := by omega
  exact ⟨g, k, z, e1, e2, Nat.lt_of_lt_of_le e3 o.size, e4, e5, e6, e7, e8, (cell_keep (p := ⟨g, 0, none⟩) o e3 hg).trans e9, (cell_keep (p := ⟨g, 1, none⟩) o e3 hg).trans e10⟩
def ReplQ (B : Nat) (v3 v4 : Value) (w : World) : Prop := ∃ X f tv, v3 = .iface 184 (.pointer (some ⟨X, 0, none⟩)) ∧ v4 = .slice none 0 0 ∧ RepF w B X escP4 f tv
set_option maxRecDepth 100000 in
set_option maxHeartbeats 4000000 in
theorem once_any (b q p c8 : Nat) (v0 v1 v2 v3 : Value) (w : World) (hp : w.heap[b]? = some (.cells #[v0, v1, v2, v3, .slice (some ⟨q, p, none⟩) 8 c8] 142 (0, 0)))
  (ho : w.rangeAt q p (quoP.map fun s => .string ⟨s.toArray⟩)) :
  Calls Tryz.prog 83 #[.pointer (some ⟨b, 0, none⟩)] w fun e w' => e = .returned (.tuple #[]) ∧ Only (fun k => k = b) w w' ∧ ∃ u3 u4, w'.heap[b]? = some (.cells #[v0, v1, v2, u3, u4] 142 (0, 0)) ∧ ReplQ w.heap.size u3 u4 w' := by
 have J := hid (build_any b q p c8 v0 v1 v2 v3 w hp ho); have hb := (gE hp).1; have HP := hid hp; clear hp ho
 go_enter Tryz.func83, Tryz.ntmps83
 go_wp2_with fail
 refine J.out.mono ?_
 rintro e w1 ⟨X, f, tv, rfl, hr, o1⟩; have hp1 := (o1.block b hb (fun e => e)).trans HP.out; obtain ⟨c0, c1, c2, c3, c4, fz⟩ := boxN5 hp1; have hp2 := heap_set (o := 3) hp1 (.iface 184 (.pointer (some ⟨X, 0, none⟩))); have hp3 := heap_set (o := 4) hp2 (.slice none 0 0); have oz : Only (fun k => k = b) w1 ((w1.setCell ⟨b, 3, none⟩ (.iface 184 (.pointer (some ⟨X, 0, none⟩)))).setCell ⟨b, 4, none⟩ (.slice none 0 0)) := ((Only.refl (fun k => k = b) w1).setCell (p := ⟨b, 3, none⟩) (.inl rfl) _).setCell (p := ⟨b, 4, none⟩) (.inl rfl) _; have hr2 := hr.past hb oz; rw [List.setIfInBounds_toArray] at hp3; have hp3 : ((w1.setCell ⟨b, 3, none⟩ (.iface 184 (.pointer (some ⟨X, 0, none⟩)))).setCell ⟨b, 4, none⟩ (.slice none 0 0)).heap[b]? = some (.cells #[v0, v1, v2, .iface 184 (.pointer (some ⟨X, 0, none⟩)), .slice none 0 0] 142 (0, 0)) := by simpa using hp3
 have HEND := hid (And.intro ((o1.mono (T := fun k => k = b) (fun _ _ e => e.elim)).trans oz) (And.intro hp3 hr2)); clear hp1 hp2 hp3 hr hr2 o1 oz
 go_wp2_with fail
 clear c0 c1 c2 c3 c4 fz
 first
  | exact ⟨rfl, HEND.out.1, _, _, HEND.out.2.1, X, f, tv, rfl, rfl, HEND.out.2.2⟩
  | (go_end0; exact ⟨rfl, HEND.out.1, _, _, HEND.out.2.1, X, f, tv, rfl, rfl, HEND.out.2.2⟩)
set_option maxRecDepth 100000 in
set_option maxHeartbeats 4000000 in
theorem newrepl_any (q p c8 : Nat) (w : World) (hc : 8 ≤ c8 ∧ c8 ≤ 1000) (ho : w.rangeAt q p (quoP.map fun s => .string ⟨s.toArray⟩)) :
  Calls Tryz.prog 58 #[.slice (some ⟨q, p, none⟩) 8 c8] w fun e w' => ∃ b q' c', e = .returned (.pointer (some ⟨b, 0, none⟩)) ∧ w.heap.size ≤ b ∧ w'.heap[b]? = some (.cells #[.int .u32 0, .int .i32 0, .int .u32 0, .nilIface, .slice (some ⟨q', 0, none⟩) 8 c'] 142 (0, 0)) ∧ w'.rangeAt q' 0 (quoP.map fun s => .string ⟨s.toArray⟩) ∧ q' ≠ b ∧ Only (fun _ => False) w w' := by
 have HO := hid ho; have hq : q < w.heap.size := cell_lt (ho 0 _ rfl); have hys : ∀ j u, (quoP.map fun s => Value.string ⟨s.toArray⟩)[j]? = some u → w.cell? ((⟨q, p, none⟩ : Addr).add j) = some u := fun j u hu => by rw [addr_add]; exact ho j u hu
 have HYS := hid hys; clear ho hys
 go_enter Tryz.func58, Tryz.ntmps58
 go_wp2_with ((refine wpList_append_own2 (o := ⟨some 9, _, _, _, _, _⟩) rfl (.const (.slice none 0 0)) (.tmp 8) 32 9 (by rfl) Tryz.underlying32 infoStrQ rfl (by decide) w.heap.size (.slice none 0 0) 0 8 c8 [] (quoP.map fun s => .string ⟨s.toArray⟩) ⟨q, p, none⟩ (by rfl) (by rfl) (own_nil _ _ _ _) (by rfl) HYS.out (by intro u hu; rw [List.mem_map] at hu; obtain ⟨_, _, rfl⟩ := hu; rfl) (by decide) (by decide) (Nat.le_refl _) ?_; intro v' w9 q1 q2 q3; obtain ⟨g, c9, eN, g1, g2, g3⟩ := own_range q1 (by decide); subst eN))
 obtain ⟨bb, hbb⟩ := eX (w9.heap.size); have hn := heap_new w9 (.cells #[.int .u32 0, .int .i32 0, .int .u32 0, .nilIface, .slice (some ⟨g, 0, none⟩) 8 c9] 142); have on := (Only.refl (fun _ => False) w9).alloc (.cells #[.int .u32 0, .int .i32 0, .int .u32 0, .nilIface, .slice (some ⟨g, 0, none⟩) 8 c9] 142); have o9 : Only (fun _ => False) w w9 := q2.mono (fun k _ e => by cases e); have hrg : (w9.alloc (.cells #[.int .u32 0, .int .i32 0, .int .u32 0, .nilIface, .slice (some ⟨g, 0, none⟩) 8 c9] 142)).rangeAt g 0 (quoP.map fun s => .string ⟨s.toArray⟩) := range_keep g3 g2 on (fun e => e)
 go_wp2_with fail
 go_ret
 exact ⟨w9.heap.size, g, c9, rfl, o9.size, hn, hrg, by omega, o9.trans on⟩
set_option maxRecDepth 100000 in
set_option maxHeartbeats 4000000 in
theorem replace_any (b q c : Nat) (s : ByteArray) (hs : s.size ≤ 1000000000000) (w : World) (hb : w.heap[b]? = some (.cells #[.int .u32 0, .int .i32 0, .int .u32 0, .nilIface, .slice (some ⟨q, 0, none⟩) 8 c] 142 (0, 0))) (hr : w.rangeAt q 0 (quoP.map fun s => .string ⟨s.toArray⟩)) (hqb : q ≠ b) :
  Calls Tryz.prog 59 #[.pointer (some ⟨b, 0, none⟩), .string s] w fun e w' => e = .returned (.string ⟨(escS s.data.toList).toArray⟩) ∧ Only (fun k => k = b) w w' := by
 have hbl := (gE hb).1; have hql : q < w.heap.size := cell_lt (hr 0 _ rfl); have o1 : Only (fun k => k = b) w (w.setCell ⟨b, 1, none⟩ (.int .i32 1)) := (Only.refl (fun k => k = b) w).setCell (p := ⟨b, 1, none⟩) (.inl rfl) _; have hb1 := heap_set (o := 1) hb (.int .i32 1); have hb1 : (w.setCell ⟨b, 1, none⟩ (.int .i32 1)).heap[b]? = some (.cells #[.int .u32 0, .int .i32 1, .int .u32 0, .nilIface, .slice (some ⟨q, 0, none⟩) 8 c] 142 (0, 0)) := by simpa using hb1
 have hsz : (w.setCell ⟨b, 1, none⟩ (.int .i32 1)).heap.size = w.heap.size := by simp [World.setCell]
 have JF := once_any b q 0 c _ _ _ _ (w.setCell ⟨b, 1, none⟩ (.int .i32 1)) hb1 (range_keep hr hql o1 hqb); rw [hsz] at JF; have J := hid (do_any b _ _ w hb (ReplQ w.heap.size) (JF.mono fun e w' h => ⟨h.1, o1.trans h.2.1, h.2.2⟩)); have hmf : ∀ (fn : Fn) (first cap : Array Value) (w : World), (Instr.makeFunc fn first cap).run Tryz.prog w = .ok (.func fn first cap) w := fun _ _ _ _ => rfl
 clear JF hb1 o1 hsz hr hb hql hqb
 go_enter Tryz.func59, Tryz.ntmps59
 go_wp2_with fail
 refine J.out.mono ?_
 rintro e w2 ⟨rfl, o2, u3, u4, w1, hb2, ⟨X, f, tv, rfl, rfl, hrf⟩, o12⟩; have K := hid (repl_any w.heap.size X f tv s hs w2 (hrf.past hbl o12)); have HO2 := hid o2; obtain ⟨c0, c1, c2, c3, c4, fz⟩ := boxN5 hb2; clear o2 o12 hrf hb2 J
 go_wp2_with fail
 refine K.out.mono ?_
 rintro e w3 ⟨rfl, o3⟩; have HO3 := hid (HO2.out.trans' o3 (fun _ _ e => e.elim)); clear o3 c0 c1 c2 c3 c4 fz
 go_wp2_with fail
 go_ret
 exact ⟨rfl, HO3.out⟩
set_option maxRecDepth 100000 in
set_option maxHeartbeats 4000000 in
theorem pquote_any (s : ByteArray) (hs : s.size ≤ 1000000000000) (w : World) : Calls Tryz.prog 25 #[.string s] w (fun e w' => e = .returned (.string ⟨(quoS s.data.toList).toArray⟩) ∧ Only (fun _ => False) w w') := by
 obtain ⟨G, hG⟩ := eX (w.heap.size); obtain ⟨w1, hw1⟩ := eX (w.alloc (.cells (quoP.map fun s => Value.string ⟨s.toArray⟩).toArray 9)); have h1 : w1.heap[G]? = some (.cells (quoP.map fun s => Value.string ⟨s.toArray⟩).toArray 9 (0, 0)) := by rw [← hw1, ← hG]; exact heap_new _ _
 have o1 : Only (fun _ => False) w w1 := by rw [← hw1]; exact (Only.refl _ w).alloc _
 have hrg : w1.rangeAt G 0 (quoP.map fun s => .string ⟨s.toArray⟩) := fun j v hv => by
  simp only [World.cell?, h1]; rw [Nat.zero_add]; simpa using hv
 have J := hid (newrepl_any G 0 8 w1 ⟨by omega, by omega⟩ hrg); have HO1 := hid o1; have HG := hid hG; have HW1 := hid (show w.alloc (.cells #[.string ⟨#[92]⟩, .string ⟨#[92, 92]⟩, .string ⟨#[34]⟩, .string ⟨#[92, 34]⟩, .string ⟨#[10]⟩, .string ⟨#[92, 110]⟩, .string ⟨#[9]⟩, .string ⟨#[92, 116]⟩] 9) = w1 from hw1); have hup := (escS_up s.data.toList).2; have hsl : s.data.toList.length = s.size := rfl; rw [hsl] at hup; obtain ⟨E, hE⟩ := eX (escS s.data.toList); have HE := hid hE; rw [hE] at hup; have hEb : E.length ≤ 3000000000000 := by omega
 clear h1 o1 hrg hG hw1 hsl hup hE
 go_enter Tryz.func25, Tryz.ntmps25
 go_upto_region 1 with (fail)
 go_wp2_with fail
 rw [HG.out, HW1.out]; refine J.out.mono ?_
 rintro e w2 ⟨b, q, c, rfl, hbl, hb, hr, hqb, o2⟩; have K := hid (replace_any b q c s hs w2 hb hr hqb); rw [HE.out] at K; have HO2 := hid (HO1.out.trans o2); have HBL := hid (show w.heap.size ≤ b from Nat.le_trans HO1.out.size hbl); clear hb hr hqb o2 hbl J HG HW1
 go_wp2_with fail
 refine K.out.mono ?_
 rintro e w3 ⟨rfl, o3⟩; have HO3 := hid (HO2.out.trans' o3 (fun k hk e => by have e : k = b := e; have := HBL.out; omega)); have HQ := hid (show quoS s.data.toList = [34] ++ E ++ [34] by rw [← HE.out]; rfl); clear o3 K
 go_wp2_with fail
 go_ret
 rw [HQ.out, ← cat_list, ← cat_list]; exact ⟨rfl, HO3.out⟩
end Go.Proofs.YtnkpoddbbdmipaaGreatDoor
