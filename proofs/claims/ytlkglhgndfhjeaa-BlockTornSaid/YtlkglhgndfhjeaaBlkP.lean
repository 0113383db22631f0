/- Package block: what several laws need: runs of writes; rows of 64 bytes that a law makes. -/
import Derived.Test.YtlkglhgndfhjeaaBlkN
import Derived.Test.YtlkglhgndfhjeaaReads
namespace Go.Proofs.Ytlkglhgndfhjeaa
open Go Go.RowKit
set_option linter.unusedVariables false
set_option linter.unusedSimpArgs false

theorem run_drewN (w : World) : w.drew = w.drewN 1 := rfl
theorem wpList_copy_only {P : Program} {ops : Array Oper} {rest : List Oper} {o : Oper} {a : Act} {w : World} {Q : Exit → Act → World → Prop} (hgd : o.guard = none) (d s : Operand) (dT sT : TypeId)
    (ho : o.op = .call { callee := .builtin .copy, args := #[d, s], argTypes := #[dT, sT] }) (elem : TypeId) (hu : P.underlying dT = some (.slice elem)) (hsz : (P.info? elem).map (·.size) = some 1)
    (dp sp : Option Addr) (dLen dCap sLen sCap : Nat) (hd : a.eval d = .slice dp dLen dCap) (hs : a.eval s = .slice sp sLen sCap)
    (g off : Nat) (cur : List Value) (t : TypeId) (hg : w.heap[g]? = some (.cells cur.toArray t (0, 0))) (cs : List Value) (hn : cs.length = Nat.min sLen dLen)
    (hpos : 0 < cs.length → dp = some ⟨g, off, none⟩ ∧ ∃ ad, sp = some ad ∧ ∀ j v, cs[j]? = some v → w.cell? (ad.add j) = some v)
    (hfit : off + cs.length ≤ cur.length) (h1 : ∀ v ∈ cs, v.oneCell' = true)
    (h : ∀ w', w'.heap[g]? = some (.cells (splice cur off cs).toArray t (0, 0)) → Only (fun k => k = g) w w' → wpList P ops Q rest (a.put o.dst (goInt cs.length)) w') : wpList P ops Q (o :: rest) a w := by
  by_cases h0 : cs.length = 0
  · obtain rfl : cs = [] := List.eq_nil_of_length_eq_zero h0
    refine wpList_copy_nothing hgd d s dT sT ho elem hu hsz dp sp dLen dCap sLen sCap hd hs (by simpa using hn.symm) ?_
    exact h w (by simpa [splice] using hg) (Only.refl _ _)
  · obtain ⟨rfl, ad, rfl, hsrc⟩ := hpos (by omega)
    refine wpList_copy_own hgd d s dT sT ho elem hu hsz g off dLen dCap ad sLen sCap hd hs cur.toArray t hg cs hn hsrc (by simpa using hfit) h1 ?_
    exact h _ (by simpa [splice] using setRow_heap w g _ _ t _ hg) ⟨rfl, rfl, rfl, by simp [World.setRow], fun k _ hk => setRow_other w g k _ hk⟩

theorem infoU8 : (Try.prog.info? 5).map (fun i => (i.zero, i.size, i.bytes)) = some (some (.int .u8 0), 1, 1) := by kernel_rfl
theorem made_rep (x : Value) (n : Nat) : madeCells #[x] n = (List.replicate n x).toArray := by
  apply Array.ext_getElem?
  intro j
  by_cases hj : j < n
  · rw [rep_get n j x hj]
    have e : (madeCells #[x] n)[j]? = some (#[x][j % 1]!) := by
      unfold madeCells
      rw [Array.getElem?_map, Array.getElem?_range, if_pos hj]; rfl
    rw [e, Nat.mod_one]; rfl
  · rw [Array.getElem?_eq_none (by rw [size_madeCells]; omega), List.getElem?_toArray, List.getElem?_eq_none (by rw [List.length_replicate]; omega)]
theorem made_64 : madeCells #[.int .u8 0] 64 = zeroB := by
  unfold zeroB zeros64
  rw [u8s_rep, made_rep]
theorem make64 (w : World) : (Instr.makeSlice 22 (.int .i64 64) (.int .i64 64)).run Try.prog w = .ok (.slice (some ⟨w.heap.size, 0, none⟩) 64 64) (w.alloc (.cells zeroB 5)) := by
  obtain ⟨i0, hi, hz0, hz1, hz2⟩ := info_parts infoU8
  have hm := run_make (P := Try.prog) w 22 5 i0 (.int .u8 0) Try.underlying22 hi hz0 .i64 .i64 64 64 (by omega) (by omega) (by rw [hz2]; decide) (by omega)
  rw [hz1] at hm
  have e : madeCells (Value.int .u8 0).cells ((64 : Int).toNat * 1) = zeroB := made_64
  rw [e] at hm
  exact hm
theorem splice_64 (l : List UInt8) (h : l.length ≤ 64) : splice (u8s zeros64) 0 (u8s l) = u8s (pad64 l) := by
  unfold splice pad64 zeros64
  rw [u8s_append, u8s_len, List.take_zero, List.nil_append, Nat.zero_add, ← u8s_drop, List.drop_replicate]

/-- n writes, one a block, from the first on. -/
def wrs (st : Dk) : Nat → List UInt8 → Dk
  | 0, _ => st
  | n + 1, l => wrote (wrs st n l) n l
structure Even (st st' : Dk) (n m : Nat) : Prop where
  off : st'.off = false
  armed : st'.armed = 0
  fine : Fine st' (m + n)
  sure : st'.sure = st.sure
theorem wrote_calm {st : Dk} (ho : st.off = false) (ha : st.armed = 0) (i : Int) (l : List UInt8) : (begun st).off = false ∧ (wrote st i l).off = false ∧ (wrote st i l).armed = 0 ∧ (wrote st i l).sure = st.sure ∧ (wrote st i l).wait = st.wait ++ [(i, pad64 l)] := by
  have e := begun_armed0 st ha
  unfold wrote
  rw [e]; exact ⟨ho, ho, ha, rfl, rfl⟩
theorem wrs_even {st : Dk} {m : Nat} (ho : st.off = false) (ha : st.armed = 0) (hf : Fine st m) (l : List UInt8) : ∀ n, n ≤ st.sure.length → m + n ≤ 1000000000 → Even st (wrs st n l) n m
  | 0, _, _ => ⟨ho, ha, hf, rfl⟩
  | n + 1, hn, hm => by
    have ih := wrs_even ho ha hf l n (by omega) (by omega)
    obtain ⟨c0, c1, c2, c3, c4⟩ := wrote_calm ih.off ih.armed n l
    exact ⟨c1, c2, ih.fine.wrote (by omega) ⟨by omega, by rw [ih.sure]; omega⟩ l, c3.trans ih.sure⟩
theorem synced_calm {st : Dk} (ho : st.off = false) (ha : st.armed = 0) : (begun st).off = false ∧ (synced st).off = false ∧ (synced st).armed = 0 ∧ (synced st).wait = [] ∧ (synced st).sure = view st := by
  have e := begun_armed0 st ha
  have hb : (begun st).off = false := by rw [e]; exact ho
  have es : synced st = settleD (begun st) (begun st).wait.length := by unfold synced; rw [if_neg (by rw [hb]; decide)]
  rw [es, e]
  refine ⟨ho, ho, ha, rfl, ?_⟩
  show settled st.sure (List.take st.wait.length st.wait) = view st
  rw [List.take_length]; rfl
/-- The bytes of a row that the law made. -/
theorem bytes_block {w : World} {g : Nat} {l : List UInt8} {e : TypeId} {fr : Nat × Nat} (h : w.heap[g]? = some (.cells (u8s l).toArray e fr)) {lo n cap : Nat} (hn : lo + n ≤ l.length) (hc : n ≤ cap) (hc' : cap ≤ 9223372036854775807) :
    Bytes w (.slice (some ⟨g, lo, none⟩) n cap) ((l.drop lo).take n) := by
  have hl : ((l.drop lo).take n).length = n := by rw [List.length_take, List.length_drop]; omega
  refine ⟨_, _, by rw [hl], by rw [hl]; exact hc, hc', fun _ => ⟨g, lo, rfl, (Array.getElem?_eq_some_iff.1 h).1, fun j v hv => ?_⟩⟩
  refine range_of_block h (lo + j) v ?_ |> fun e => by simpa using e
  rw [u8s_take, u8s_drop, List.getElem?_take] at hv
  by_cases hj : j < n
  · rw [if_pos hj, List.getElem?_drop] at hv; exact hv
  · rw [if_neg hj] at hv; cases hv
theorem Bytes.src {w : World} {a : Option Addr} {n c : Nat} {l : List UInt8} (h : Bytes w (.slice a n c) l) (hp : 0 < (u8s l).length) : ∃ ad, a = some ad ∧ ∀ j v, (u8s l)[j]? = some v → w.cell? (ad.add j) = some v := by
  obtain ⟨a', c', e, h1, h2, h3⟩ := h
  cases e
  rw [u8s_len] at hp
  obtain ⟨b, off, rfl, hb, hr⟩ := h3 hp
  exact ⟨_, rfl, fun j v hv => by rw [addr_add]; exact hr j v hv⟩
theorem disk_len64 {w : World} {F : Nat → Prop} {b : Nat} {st : Dk} (h : DiskAt w F b st) {i : Nat} (hi : i < st.sure.length) : ((view st).getD i []).length = 64 := by
  have hi' : i < (view st).length := by rw [view_len]; exact hi
  rw [List.getD_eq_getElem?_getD, List.getElem?_eq_getElem hi']
  exact settled_all64 h.1 h.2.1 _ (List.getElem_mem hi')
theorem Bytes.drewN {w : World} {v : Value} {l : List UInt8} (h : Bytes w v l) (n : Nat) : Bytes (w.drewN n) v l := h
end Go.Proofs.Ytlkglhgndfhjeaa
