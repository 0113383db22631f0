/- strings.Replacer: byteStringReplacer.Replace: plain laws; strings.Count; the buffer. -/
import Derived.Test.YtnkpoddbbdmipaaGreatDoorNaQbl
import Derived.Lib.Strings
import Derived.Lib.Slices
import Derived.Lib.Walk
import Derived.Lib.Bytealg
import Derived.Laws.CopyOwn
import Derived.Deep.WholeRow
namespace Go.Proofs.YtnkpoddbbdmipaaGreatDoor
open Go Go.RowKit
set_option linter.unusedVariables false
set_option linter.unusedSimpArgs false

set_option maxHeartbeats 1000000 in
set_option maxRecDepth 100000 in
theorem count_one (s : ByteArray) (c : UInt8) (w : World) :
    Calls Tryz.prog 171 #[.string s, .string ⟨#[c]⟩] w fun e w' => e = .returned (.int .i64 ((s.data.toList.count c : Nat) : Int)) ∧ w' = w := by
  go_enter Tryz.func171, Tryz.ntmps171
  go_wp2
  rw [run_callFunc_extern Tryz.func173 (by kernel_rfl) (by kernel_rfl) (by kernel_rfl) (e := Extern.BytealgCount.count) (by kernel_rfl), Lib.run_countString]
  simp only [Result.andThen]
  rw [Oper.upon_value]
  go_wp2
  go_ret
  exact ⟨rfl, rfl⟩
/-! ### Plain -/
def escP4 : List UInt8 := [9, 10, 34, 92]
theorem esc1_in {c : UInt8} (h : c ∈ escP4) : (esc1 c).length = 2 := by
  have h : c ∈ ([9, 10, 34, 92] : List UInt8) := h
  simp only [List.mem_cons, List.not_mem_nil, or_false] at h
  rcases h with rfl | rfl | rfl | rfl <;> rfl
theorem esc1_out {c : UInt8} (h : c ∉ escP4) : esc1 c = [c] := by
  unfold esc1
  have h9 : c.toNat ≠ 9 := fun e => h (by rw [show c = 9 from UInt8.toNat_inj.1 e]; decide)
  have h10 : c.toNat ≠ 10 := fun e => h (by rw [show c = 10 from UInt8.toNat_inj.1 e]; decide)
  have h34 : c.toNat ≠ 34 := fun e => h (by rw [show c = 34 from UInt8.toNat_inj.1 e]; decide)
  have h92 : c.toNat ≠ 92 := fun e => h (by rw [show c = 92 from UInt8.toNat_inj.1 e]; decide)
  rw [if_neg h10, if_neg h9, if_neg (by omega)]
theorem escS_cons' (c : UInt8) (l : List UInt8) : escS (c :: l) = esc1 c ++ escS l := by unfold escS; rw [List.flatMap_cons]
theorem escS_count : ∀ l : List UInt8, (escS l).length = l.length + (escP4.map fun u => l.count u).sum
  | [] => rfl
  | c :: l => by
    rw [escS_cons', List.length_append, escS_count l, List.length_cons]
    by_cases h : c ∈ escP4
    · rw [esc1_in h]
      have h' : c ∈ ([9, 10, 34, 92] : List UInt8) := h
      simp only [List.mem_cons, List.not_mem_nil, or_false] at h'
      rcases h' with rfl | rfl | rfl | rfl <;> simp [escP4, List.count_cons] <;> omega
    · rw [esc1_out h]
      have e : ∀ u ∈ escP4, (c :: l).count u = l.count u := fun u hu => by
        rw [List.count_cons, if_neg (by simp; intro e; exact h (e ▸ hu))]; rfl
      rw [List.map_congr_left e]
      simp; omega
theorem escS_same : ∀ l : List UInt8, (escS l).length = l.length → escS l = l
  | [], _ => rfl
  | c :: l, h => by
    rw [escS_cons', List.length_append, List.length_cons] at h
    have h2 := escS_count l
    by_cases hc : c ∈ escP4
    · rw [esc1_in hc] at h; omega
    · rw [escS_cons', esc1_out hc, escS_same l (by rw [esc1_out hc] at h; simp at h; omega)]; rfl
theorem escS_snoc (s : ByteArray) (k : Nat) (h : k < s.size) : escS (s.data.toList.take (k + 1)) = escS (s.data.toList.take k) ++ esc1 s[k] := by
  have e : s.data.toList.take (k + 1) = s.data.toList.take k ++ [s[k]] := by
    rw [List.take_succ_eq_append_getElem (show k < s.data.toList.length from h)]; rfl
  rw [e]
  unfold escS
  rw [List.flatMap_append, List.flatMap_cons, List.flatMap_nil, List.append_nil]
theorem escS_le (s : ByteArray) (k : Nat) : (escS (s.data.toList.take k)).length ≤ (escS s.data.toList).length := by
  conv => rhs; rw [← List.take_append_drop k s.data.toList]
  unfold escS
  rw [List.flatMap_append, List.length_append]; omega
theorem escS_up (l : List UInt8) : l.length ≤ (escS l).length ∧ (escS l).length ≤ 2 * l.length := by
  refine ⟨by rw [escS_count]; omega, ?_⟩
  induction l with
  | nil => simp [escS]
  | cons c l ih =>
    rw [escS_cons', List.length_append, List.length_cons]
    by_cases hc : c ∈ escP4
    · rw [esc1_in hc]; omega
    · rw [esc1_out hc]; simp; omega
/-! ### The buffer -/
def u8q (l : List UInt8) : List Value := l.map fun b => Value.int .u8 (b.toNat : Int)
/-- N cells that begin with E. -/
def bufQ (E : List UInt8) (N : Nat) : List Value := u8q (E ++ List.replicate (N - E.length) 0)
theorem bufQ_len {E : List UInt8} {N : Nat} (h : E.length ≤ N) : (bufQ E N).length = N := by simp [bufQ, u8q]; omega
theorem bufQ_set {E : List UInt8} {N : Nat} (c : UInt8) (h : E.length < N) : (bufQ E N).set E.length (.int .u8 (c.toNat : Int)) = bufQ (E ++ [c]) N := by
  unfold bufQ u8q
  obtain ⟨m, hm⟩ : ∃ m, N - E.length = m + 1 := ⟨N - E.length - 1, by omega⟩
  have hm2 : N - (E ++ [c]).length = m := by simp; omega
  rw [hm, hm2, List.replicate_succ, List.map_append, List.set_append_right _ _ (by simp)]
  simp
theorem bufQ_at {E : List UInt8} {N : Nat} (h : E.length < N) : (bufQ E N)[E.length]? = some (.int .u8 0) := by
  unfold bufQ u8q
  obtain ⟨m, hm⟩ : ∃ m, N - E.length = m + 1 := ⟨N - E.length - 1, by omega⟩
  rw [hm, List.replicate_succ, List.map_append, List.getElem?_append_right (by simp)]
  simp
theorem bufQ_splice {E : List UInt8} {N : Nat} (a b : UInt8) (h : E.length + 2 ≤ N) : splice (bufQ E N) E.length (u8q [a, b]) = bufQ (E ++ [a, b]) N := by
  unfold splice bufQ u8q
  obtain ⟨m, hm⟩ : ∃ m, N - E.length = m + 2 := ⟨N - E.length - 2, by omega⟩
  have hm2 : N - (E ++ [a, b]).length = m := by simp; omega
  rw [hm, hm2, List.replicate_succ, List.replicate_succ, List.map_append]
  simp [List.drop_append, List.take_append]
theorem bufQ_cell {w : World} {G : Nat} {l : List UInt8} {T : TypeId} (h : w.heap[G]? = some (.cells (bufQ l l.length).toArray T (0, 0))) (j : Nat) (hj : j < l.length) : w.cell? ⟨G, j, none⟩ = some (.int .u8 (l[j].toNat : Int)) := by
  simp only [World.cell?, h]
  simp [bufQ, u8q, hj]
theorem wpList_copy_only {P : Program} {ops : Array Oper} {rest : List Oper} {o : Oper} {a : Act} {w : World} {Q : Exit → Act → World → Prop} (hgd : o.guard = none) (d s : Operand) (dT sT : TypeId)
    (ho : o.op = .call { callee := .builtin .copy, args := #[d, s], argTypes := #[dT, sT] }) (elem : TypeId) (hu : P.underlying dT = some (.slice elem)) (hsz : (P.info? elem).map (·.size) = some 1)
    (dp sp : Option Addr) (dLen dCap sLen sCap : Nat) (hd : a.eval d = .slice dp dLen dCap) (hs : a.eval s = .slice sp sLen sCap)
    (g off : Nat) (cur : List Value) (t : TypeId) (hg : w.heap[g]? = some (.cells cur.toArray t (0, 0))) (cs : List Value) (hn : cs.length = Nat.min sLen dLen)
    (hpos : 0 < cs.length → dp = some ⟨g, off, none⟩ ∧ ∃ ad, sp = some ad ∧ ∀ j v, cs[j]? = some v → w.cell? (ad.add j) = some v)
    (hfit : off + cs.length ≤ cur.length) (h1 : ∀ v ∈ cs, v.oneCell' = true)
    (h : ∀ w', w'.heap[g]? = some (.cells (splice cur off cs).toArray t (0, 0)) → Only (fun k => k = g) w w' → wpList P ops Q rest (a.put o.dst (goInt cs.length)) w') : wpList P ops Q (o :: rest) a w := by
  by_cases h0 : cs.length = 0
  · obtain rfl : cs = [] := List.eq_nil_of_length_eq_zero h0
    refine wpList_copy_nothing hgd d s dT sT ho elem hu hsz dp sp dLen dCap sLen sCap hd hs (by simpa using hn.symm) ?_
    exact h w (by simpa [splice] using hg) (Only.refl _ _)
  · obtain ⟨rfl, ad, rfl, hsrc⟩ := hpos (by omega)
    refine wpList_copy_own hgd d s dT sT ho elem hu hsz g off dLen dCap ad sLen sCap hd hs cur.toArray t hg cs hn hsrc (by simpa using hfit) h1 ?_
    exact h _ (by simpa [splice] using setRow_heap w g _ _ t _ hg) ⟨rfl, rfl, rfl, by simp [World.setRow], fun k _ hk => setRow_other w g k _ hk⟩
theorem sizeQ : (Tryz.prog.info? 5).map (·.size) = some 1 := by kernel_rfl
theorem infoU8q : (Tryz.prog.info? 5).map (fun i => (i.zero, i.size, i.bytes)) = some (some (.int .u8 0), 1, 1) := by kernel_rfl
theorem made_q (n : Nat) : madeCells #[.int .u8 0] n = (bufQ [] n).toArray := by
  apply Array.ext_getElem?
  intro j
  have e0 : bufQ [] n = List.replicate n (.int .u8 0) := by simp [bufQ, u8q, List.map_replicate]
  rw [e0]
  by_cases hj : j < n
  · rw [show (List.replicate n (Value.int .u8 0)).toArray[j]? = some (Value.int .u8 0) from by rw [List.getElem?_toArray, List.getElem?_replicate, if_pos hj]]
    have e : (madeCells #[.int .u8 0] n)[j]? = some (#[Value.int .u8 0][j % 1]!) := by
      unfold madeCells
      rw [Array.getElem?_map, Array.getElem?_range, if_pos hj]; rfl
    rw [e, Nat.mod_one]; rfl
  · rw [Array.getElem?_eq_none (by rw [size_madeCells]; omega), List.getElem?_toArray, List.getElem?_eq_none (by rw [List.length_replicate]; omega)]
theorem make_q (n : Nat) (hn : n ≤ 10000000000000) (w : World) : (Instr.makeSlice 117 (.int .i64 (n : Int)) (.int .i64 (n : Int))).run Tryz.prog w = .ok (.slice (some ⟨w.heap.size, 0, none⟩) n n) (w.alloc (.cells (bufQ [] n).toArray 5)) := by
  obtain ⟨i0, hi, hz0, hz1, hz2⟩ := info_parts infoU8q
  have hm := run_make (P := Tryz.prog) w 117 5 i0 (.int .u8 0) Tryz.underlying117 hi hz0 .i64 .i64 (n : Int) (n : Int) (by omega) (by omega) (by rw [hz2]; omega) (by omega)
  rw [hz1, Int.toNat_natCast, Nat.mul_one] at hm
  have e : madeCells (Value.int .u8 0).cells n = (bufQ [] n).toArray := made_q n
  rw [e] at hm
  exact hm
end Go.Proofs.YtnkpoddbbdmipaaGreatDoor
