/- Package block: what several laws need: runs of writes; rows of 64 bytes that a law makes. -/
import Derived.Test.YtlkglhgndfhjeaaBlkN
import Derived.Test.YtlkglhgndfhjeaaReads
namespace Go.Proofs.Ytlkglhgndfhjeaa
open Go Go.RowKit
set_option linter.unusedVariables false
set_option linter.unusedSimpArgs false

theorem run_drewN (w : World) : w.drew = w.drewN 1 := rfl
theorem wpList_copy_only {P : Program} {ops : Array Oper} {rest : List Oper} {o : Oper} {a : Act} {w : World} {Q : Exit → Act → World → Prop} (hgd : o.guard = none) (d s : Operand) (dT sT : TypeId)
    (ho : o.op = .call { callee := .builtin .copy, args := #[d, s], argTypes := #[dT, sT] }) (elem : TypeId) (hu : P.underlying dT = some (.slice elem)) (hsz : (P.info? elem).map (·.size) = some 1)
    (dp sp : Option Addr) (dLen dCap sLen sCap : Nat) (hd : a.eval d = .slice dp dLen dCap) (hs : a.eval s = .slice sp sLen sCap)
    (g off : Nat) (cur : List Value) (t : TypeId) (hg : w.heap[g]? = some (.cells cur.toArray t (0, 0))) (cs : List Value) (hn : cs.length = Nat.min sLen dLen)
    (hpos : 0 < cs.length → dp = some ⟨g, off, none⟩ ∧ ∃ ad, sp = some ad ∧ ∀ j v, cs[j]? = some v → w.cell? (ad.add j) = some v)
    (hfit : off + cs.length ≤ cur.length) (h1 : ∀ v ∈ cs, v.oneCell' = true)
    (h : ∀ w', w'.heap[g]? = some (.cells (splice cur off cs).toArray t (0, 0)) → Only (fun k => k = g) w w' → wpList P ops Q rest (a.put o.dst (goInt cs.length)) w') : wpList P ops Q (o :: rest) a w := by
  by_cases h0 : cs.length = 0
  · obtain rfl : cs = [] := List.eq_nil_of_length_eq_zero h0
    refine wpList_copy_nothing hgd d s dT sT ho elem hu hsz dp sp dLen dCap sLen sCap hd hs (by simpa using hn.symm) ?_
    exact h w (by simpa [splice] using hg) (Only.refl _ _)
  · obtain ⟨rfl, ad, rfl, hsrc⟩ := hpos (by omega)
    refine wpList_copy_own hgd d s dT sT ho elem hu hsz g off dLen dCap ad sLen sCap hd hs cur.toArray t hg cs hn hsrc (by simpa using hfit) h1 ?_
    exact h _ (by simpa [splice] using setRow_heap w g _ _ t _ hg) ⟨rfl, rfl, rfl, by simp [World.setRow], fun k _ hk => setRow_other w g k _ hk⟩

theorem infoU8 : (Try.prog.info? 5).map (fun i => (i.zero, i.size, i.bytes)) = some (some (.int .u8 0), 1, 1) := by kernel_rfl
theorem made_rep (x : Value) (n : Nat) : madeCells #[x] n = (List.replicate n x).toArray := by
  apply Array.ext_getElem?
  intro j
  by_cases hj : j < n
  · rw [rep_get n j x hj]
    have e : (madeCells #[x] n)[j]? = some (#[x][j % 1]!) := by
      unfold madeCells
      rw [Array.getElem?_map, Array.getElem?_range, if_pos hj]; rfl
    rw [e, Nat.mod_one]; rfl
  · rw [Array.getElem?_eq_none (by rw [size_madeCells]; omega), List.getElem?_toArray, List.getElem?_eq_none (by rw [List.length_replicate]; omega)]
theorem made_64 : madeCells #[.int .u8 0] 64 = zeroB := by
  unfold zeroB zeros64
  rw [u8s_rep, made_rep]
theorem make64 (w : World) : (Instr.makeSlice 22 (.int .i64 64) (.int .i64 64)).run Try.prog w = .ok (.slice (some ⟨w.heap.size, 0, none⟩) 64 64) (w.alloc (.cells zeroB 5)) := by
  obtain ⟨i0, hi, hz0, hz1, hz2⟩ := info_parts infoU8
  have hm := run_make (P := Try.prog) w 22 5 i0 (.int .u8 0) Try.underlying22 hi hz0 .i64 .i64 64 64 (by omega) (by omega) (by rw [hz2]; decide) (by omega)
  rw [hz1] at hm
  have e : madeCells (Value.int .u8 0).cells ((64 : Int).toNat * 1) = zeroB := made_64
  rw [e] at hm
  exact hm
theorem splice_64 (l : List UInt8) (h : l.length ≤ 64) : splice (u8s zeros64) 0 (u8s l) = u8s (pad64 l) := by
  unfold splice pad64 zeros64
  rw [u8s_append, u8s_len, List.take_zero, List.nil_append, Nat.zero_add, ← u8s_drop, List.drop_replicate]

/-- n writes, one a block, from the first on. -/
def wrs (st : Dk) : Nat → List UInt8 → Dk
  | 0, _ => st
  | n + 1, l => wrote (wrs st n l) n l
structure Even (st st' : Dk) (n m : Nat) : Prop where
  off : st'.off = false
  armed : st'.armed = 0
  fine : Fine st' (m + n)
  sure : st'.sure = st.sure
theorem wrote_calm {st : Dk} (ho : st.off = false) (ha : st.armed = 0) (i : Int) (l : List UInt8) : (begun st).off = false ∧ (wrote st i l).off = false ∧ (wrote st i l).armed = 0 ∧ (wrote st i l).sure = st.sure ∧ (wrote st i l).wait = st.wait ++ [(i, pad64 l)] := by
  have e := begun_armed0 st ha
  unfold wrote
  rw [e]; exact ⟨ho, ho, ha, rfl, rfl⟩
theorem wrs_even {st : Dk} {m : Nat} (ho : st.off = false) (ha : st.armed = 0) (hf : Fine st m) (l : List UInt8) : ∀ n, n ≤ st.sure.length → m + n ≤ 1000000000 → Even st (wrs st n l) n m
  | 0, _, _ => ⟨ho, ha, hf, rfl⟩
  | n + 1, hn, hm => by
    have ih := wrs_even ho ha hf l n (by omega) (by omega)
    obtain ⟨c0, c1, c2, c3, c4⟩ := wrote_calm ih.off ih.armed n l
    exact ⟨c1, c2, ih.fine.wrote (by omega) ⟨by omega, by rw [ih.sure]; omega⟩ l, c3.trans ih.sure⟩
theorem synced_calm {st : Dk} (ho : st.off = false) (ha : st.armed = 0) : (begun st).off = false ∧ (synced st).off = false ∧ (synced st).armed = 0 ∧ (synced st).wait = [] ∧ (synced st).sure = view st := by
  have e := begun_armed0 st ha
  have hb : (begun st).off = false := by rw [e]; exact ho
  have es : synced st = settleD (begun st) (begun st).wait.length := by unfold synced; rw [if_neg (by rw [hb]; decide)]
  rw [es, e]
  refine ⟨ho, ho, ha, rfl, ?_⟩
  show settled st.sure (List.take st.wait.length st.wait) = view st
  rw [List.take_length]; rfl
/-- The bytes of a row that the law made. -/
theorem bytes_block {w : World} {g : Nat} {l : List UInt8} {e : TypeId} {fr : Nat × Nat} (h : w.heap[g]? = some (.cells (u8s l).toArray e fr)) {lo n cap : Nat} (hn : lo + n ≤ l.length) (hc : n ≤ cap) (hc' : cap ≤ 9223372036854775807) :
    Bytes w (.slice (some ⟨g, lo, none⟩) n cap) ((l.drop lo).take n) := by
  have hl : ((l.drop lo).take n).length = n := by rw [List.length_take, List.length_drop]; omega
  refine ⟨_, _, by rw [hl], by rw [hl]; exact hc, hc', fun _ => ⟨g, lo, rfl, (Array.getElem?_eq_some_iff.1 h).1, fun j v hv => ?_⟩⟩
  refine range_of_block h (lo + j) v ?_ |> fun e => by simpa using e
  rw [u8s_take, u8s_drop, List.getElem?_take] at hv
  by_cases hj : j < n
  · rw [if_pos hj, List.getElem?_drop] at hv; exact hv
  · rw [if_neg hj] at hv; cases hv
theorem Bytes.src {w : World} {a : Option Addr} {n c : Nat} {l : List UInt8} (h : Bytes w (.slice a n c) l) (hp : 0 < (u8s l).length) : ∃ ad, a = some ad ∧ ∀ j v, (u8s l)[j]? = some v → w.cell? (ad.add j) = some v := by
  obtain ⟨a', c', e, h1, h2, h3⟩ := h
  cases e
  rw [u8s_len] at hp
  obtain ⟨b, off, rfl, hb, hr⟩ := h3 hp
  exact ⟨_, rfl, fun j v hv => by rw [addr_add]; exact hr j v hv⟩
theorem disk_len64 {w : World} {F : Nat → Prop} {b : Nat} {st : Dk} (h : DiskAt w F b st) {i : Nat} (hi : i < st.sure.length) : ((view st).getD i []).length = 64 := by
  have hi' : i < (view st).length := by rw [view_len]; exact hi
  rw [List.getD_eq_getElem?_getD, List.getElem?_eq_getElem hi']
  exact settled_all64 h.1 h.2.1 _ (List.getElem_mem hi')
theorem Bytes.drewN {w : World} {v : Value} {l : List UInt8} (h : Bytes w v l) (n : Nat) : Bytes (w.drewN n) v l := h

/-- The law began at W; the disk has blocks behind W's, and none of X's. -/
def OwnX (W : World) (X : Nat → Prop) (w : World) (b : Nat) (st : Dk) : Prop :=
  ∃ F : Nat → Prop, DiskAt w F b st ∧ (∀ k, F k → W.heap.size ≤ k ∧ k < w.heap.size ∧ ¬ X k) ∧ Only (fun _ => False) W w
theorem Own.x {W w : World} {B b : Nat} {st : Dk} (h : Own W B w b st) {X : Nat → Prop} (hX : ∀ k, k < B → ¬ X k) : OwnX W X w b st := by
  obtain ⟨F, h1, h2, h3⟩ := h
  exact ⟨_, h1.strict, fun k hk => ⟨(h2 k hk.1).1, hk.2, hX k (h2 k hk.1).2⟩, h3⟩
theorem OwnX.old {W w : World} {X : Nat → Prop} {b : Nat} {st : Dk} (h : OwnX W X w b st) : Only (fun _ => False) W w := h.choose_spec.2.2
theorem OwnX.at_ {W w : World} {X : Nat → Prop} {b : Nat} {st : Dk} (h : OwnX W X w b st) : DiskAt w h.choose b st := h.choose_spec.1
theorem OwnX.only {W w w' : World} {X : Nat → Prop} {b : Nat} {st : Dk} {S : Nat → Prop} (h : OwnX W X w b st) (ho : Only S w w') (hS : ∀ k, k < w.heap.size → S k → W.heap.size ≤ k ∧ X k) : OwnX W X w' b st := by
  obtain ⟨F, h1, h2, h3⟩ := h
  exact ⟨F, h1.only ho (fun k hk hl hs => (h2 k hk).2.2 (hS k hl hs).2), fun k hk => ⟨(h2 k hk).1, Nat.lt_of_lt_of_le (h2 k hk).2.1 ho.size, (h2 k hk).2.2⟩, h3.trans' ho (fun k hk hs => by have := (hS k (Nat.lt_of_lt_of_le hk h3.size) hs).1; omega)⟩
/-- What is new from here on is none of the disk's. -/
theorem OwnX.guard {W w : World} {X : Nat → Prop} {b : Nat} {st : Dk} (h : OwnX W X w b st) : OwnX W (fun k => X k ∨ w.heap.size ≤ k) w b st := by
  obtain ⟨F, h1, h2, h3⟩ := h
  exact ⟨F, h1, fun k hk => ⟨(h2 k hk).1, (h2 k hk).2.1, fun h => h.elim (h2 k hk).2.2 (fun h => by have := (h2 k hk).2.1; omega)⟩, h3⟩
theorem OwnX.of {W w w' : World} {X : Nat → Prop} {b : Nat} {st : Dk} {F G : Nat → Prop} (ho : Only (fun _ => False) W w) (hF : ∀ k, F k → W.heap.size ≤ k ∧ k < w.heap.size ∧ ¬ X k) (hG : ∀ k, G k → W.heap.size ≤ k ∧ k < w'.heap.size ∧ ¬ X k) (hd : DiskAt w' G b st) (h : Only F w w') : OwnX W X w' b st ∧ Only (fun k => W.heap.size ≤ k ∧ ¬ X k) w w' :=
  ⟨⟨G, hd, hG, ho.trans' h (fun k hk hs => by have := hF k hs; omega)⟩, h.mono (fun k _ hk => ⟨(hF k hk).1, (hF k hk).2.2⟩)⟩
theorem write_x (W : World) (X : Nat → Prop) (b : Nat) (st : Dk) (m : Nat) (i : Int) (v : Value) (l : List UInt8) (w : World) (h : OwnX W X w b st) (hl : lookE st i = 0) (hv : Bytes w v l) (h64 : l.length ≤ 64) (hvX : 0 < l.length → ∀ k, v.ownBlock = some k → k < W.heap.size ∨ X k) (hX : ∀ k, X k → k < w.heap.size) (hf : Fine st m) :
    Calls Try.prog 18 #[.pointer (some ⟨b, 0, none⟩), .int .i64 i, v] w fun e w' => e = .returned (.int .i64 (if (begun st).off then 12 else 0)) ∧ OwnX W X w' b (wrote st i l) ∧ Only (fun k => W.heap.size ≤ k ∧ ¬ X k) w w' := by
  obtain ⟨F, h1, h2, h3⟩ := h
  have hm := hf.small
  refine (write_any F b st i v l w h1 hl hv h64 (fun hp k hk hF => by
    have := h2 k hF
    rcases hvX hp k hk with h | h
    · omega
    · exact this.2.2 h) ⟨hf.ops.1, by have := hf.ops.2; omega⟩ hf.armed (by have := hf.wait; omega)).mono ?_
  rintro e w' ⟨he, hd, ho⟩
  refine ⟨he, ?_⟩
  exact OwnX.of h3 h2 (fun k hk => by
    rcases hk.1 with h | h
    · exact ⟨(h2 k h).1, hk.2, (h2 k h).2.2⟩
    · exact ⟨Nat.le_trans h3.size h, hk.2, fun hx => by have := hX k hx; omega⟩) hd.strict ho
theorem sync_x (W : World) (X : Nat → Prop) (b : Nat) (st : Dk) (m : Nat) (w : World) (h : OwnX W X w b st) (hl : lookE st 0 = 0) (hf : Fine st m) :
    Calls Try.prog 19 #[.pointer (some ⟨b, 0, none⟩)] w fun e w' => e = .returned (.int .i64 (if (begun st).off then 12 else 0)) ∧ OwnX W X w' b (synced st) ∧ Only (fun k => W.heap.size ≤ k ∧ ¬ X k) w w' := by
  obtain ⟨F, h1, h2, h3⟩ := h
  exact (sync_any F b st m w h1 hl hf).mono fun e w' ⟨he, hd, ho⟩ => ⟨he, OwnX.of h3 h2 (fun k hk => ⟨(h2 k hk).1, Nat.lt_of_lt_of_le (h2 k hk).2.1 ho.size, (h2 k hk).2.2⟩) hd ho⟩
theorem restart_x (W : World) (X : Nat → Prop) (b : Nat) (st : Dk) (m : Nat) (keep torn : Int) (w : World) (h : OwnX W X w b st) (hf : Fine st m) :
    Calls Try.prog 20 #[.pointer (some ⟨b, 0, none⟩), .int .i64 keep, .int .i64 torn] w fun e w' => e = .returned (.int .i64 0) ∧ OwnX W X w' b (restarted st keep torn) ∧ Only (fun k => W.heap.size ≤ k ∧ ¬ X k) w w' := by
  obtain ⟨F, h1, h2, h3⟩ := h
  exact (restart_any F b st m keep torn w h1 hf).mono fun e w' ⟨he, hd, ho⟩ => ⟨he, OwnX.of h3 h2 (fun k hk => ⟨(h2 k hk).1, Nat.lt_of_lt_of_le (h2 k hk).2.1 ho.size, (h2 k hk).2.2⟩) hd ho⟩
theorem read_x (W : World) (X : Nat → Prop) (b : Nat) (st : Dk) (m i : Nat) (w : World) (h : OwnX W X w b st) (hl : lookE st i = 0) (hf : Fine st m) :
    Calls Try.prog 21 #[.pointer (some ⟨b, 0, none⟩), .int .i64 i] w fun e w' => ∃ v, e = .returned (.tuple #[v, .int .i64 0]) ∧ Told w ((view st).getD i []) v w' ∧ OwnX W X w' b st ∧ Only (fun _ => False) w w' := by
  have h' := h
  obtain ⟨F, h1, h2, h3⟩ := h
  refine (read_any F b st m i w h1 hl hf).mono ?_
  rintro e w' ⟨g, hg, he, hb, ho⟩
  exact ⟨_, he, ⟨g, hg, rfl, hb⟩, h'.only ho (fun _ _ h => h.elim), ho⟩
end Go.Proofs.Ytlkglhgndfhjeaa
