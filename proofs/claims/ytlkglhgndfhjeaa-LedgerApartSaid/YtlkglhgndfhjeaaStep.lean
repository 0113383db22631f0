/- append onto a row that the call owns, as one step of a region that draws its order. Over no program. -/
import Derived.Test.YtlkglhgndfhjeaaRowS
import Derived.Deep.RegionLaw
import Derived.Deep.RegionLawGrows
import Derived.Great.BuildSlice
namespace Go.Proofs.Ytlkglhgndfhjeaa
open Go Go.RowKit
set_option linter.unusedVariables false
set_option linter.unusedSimpArgs false

theorem step_load_agg {P : Program} {ops : Array Oper} {o : Oper} {a : Act} {w : World} {K : Act → World → Prop} {Q : Exit → Act → World → Prop} {E : Prop} (hg : o.guard = none)
    (ty : TypeId) (x : Operand) (ho : o.op = .load ty x) (b off : Nat) (hx : a.eval x = .pointer (some ⟨b, off, none⟩)) (cs : List Value) (d : TypeDesc) (hc : w.rangeAt b off cs)
    (hu : P.underlying ty = some d) (hd : d.isRow = true) (hi : (P.info? ty).map (·.size) = some cs.length) (h : K (a.put o.dst (.agg cs.toArray)) w) :
    if Region.wanted o (yielded ops a.tmps) = true then Oper.wp P o a w K Q else E := by
  have hw : Region.wanted o (yielded ops a.tmps) = true := by simp [Region.wanted, hg]
  rw [if_pos hw]
  exact wp_load_mid ty x ho b off hx cs d hc hu hd hi h
theorem step_store_agg {P : Program} {ops : Array Oper} {o : Oper} {a : Act} {w : World} {K : Act → World → Prop} {Q : Exit → Act → World → Prop} {E : Prop} (hg : o.guard = none)
    (ty : TypeId) (x y : Operand) (ho : o.op = .store ty x y) (b off : Nat) (cells : Array Value) (hx : a.eval x = .pointer (some ⟨b, off, none⟩)) (hy : a.eval y = .agg cells) (ht : w.there b off cells.size)
    (hi : (P.info? ty).map (·.size) = some cells.size) (h1 : cells.all (·.oneCell') = true) (h : K (a.put o.dst undef) (w.setCells b off cells.toList)) :
    if Region.wanted o (yielded ops a.tmps) = true then Oper.wp P o a w K Q else E := by
  have hw : Region.wanted o (yielded ops a.tmps) = true := by simp [Region.wanted, hg]
  rw [if_pos hw]
  exact wp_store_mid ty x y ho b off cells hx hy ht hi h1 h
theorem range_of_block {w : World} {b : Nat} {cs : List Value} {e : TypeId} {fr : Nat × Nat} (h : w.heap[b]? = some (.cells cs.toArray e fr)) : w.rangeAt b 0 cs := by
  intro j v hv
  simp only [World.cell?, h]
  simpa using hv
theorem step_append_row {P : Program} {ops : Array Oper} {o : Oper} {a : Act} {w : World} {K : Act → World → Prop} {Q : Exit → Act → World → Prop} {E : Prop} (hg : o.guard = none)
    (s x : Operand) (t : TypeId) (hop : o.op = .call { callee := .builtin .append, args := #[s, x], argTypes := #[t, t] }) (base : Nat) (e : TypeId) (i : TypeInfo) (z : Value)
    (size bytes : Nat) (h1 : P.underlying t = some (.slice e)) (h2 : P.info? e = some i) (h3 : i.zero = some z) (h4 : i.size = size) (h5 : i.bytes = bytes) (h6 : z.cells.size = size)
    (h7 : 0 < size) (v : Value) (n : Nat) (xs : List Value) (hs : a.eval s = v) (hrow : Row w base e size v n xs) (ad : Addr) (m c : Nat) (news : List Value)
    (hx : a.eval x = .slice (some ad) m c) (hn : news.length = m * size) (hc : ∀ (j : Nat) (u : Value), news[j]? = some u → w.cell? (ad.add j) = some u)
    (h1c : ∀ (u : Value), u ∈ news → u.oneCell' = true) (hm : 0 < m) (b1 : n + m ≤ maxLen) (b2 : (n + m) * bytes ≤ 140737488355328) (hbase : base ≤ w.heap.size)
    (h : ∀ (a' : Option Addr) (c' : Nat) (w' : World), Row w' base e size (.slice a' (n + m) c') (n + m) (xs ++ news) → Only (fun k => v.ownBlock = some k) w w' → (∀ k, (Value.slice a' (n + m) c').ownBlock = some k → v.ownBlock = some k ∨ w.heap.size ≤ k) → K (a.put o.dst (.slice a' (n + m) c')) w') :
    if Region.wanted o (yielded ops a.tmps) = true then Oper.wp P o a w K Q else E := by
  have hfin : ∀ (v' : Value) (w' : World), Row w' base e size v' (n + m) (xs ++ news) → Only (fun k => v.ownBlock = some k) w w' → (∀ k, v'.ownBlock = some k → v.ownBlock = some k ∨ w.heap.size ≤ k) → K (a.put o.dst v') w' := by
    intro v' w' hr ho hb
    obtain ⟨a', c', rfl, _⟩ := hr.slice
    exact h a' c' w' hr ho hb
  obtain ⟨hl, hr⟩ := hrow
  rcases hr with ⟨rfl, rfl⟩ | ⟨g, off, cap, cur, rfl, hgb, hh, hcap, hcm, hroom, hcur⟩
  · refine step_append_grows hg s x t hop e i z size bytes h1 h2 h3 h4 h5 h6 h7 none 0 0 xs hs (fun _ => ⟨rfl, rfl⟩) hl (fun b hb => by cases hb) ad m c news hx hn hc h1c (by omega) b1 b2 ?_
    intro v' w' hown hgr
    exact hfin v' w' ((Row.of_own hown).mono hbase) ((Only.refl _ w).grown hgr (by intro k hk; cases hk)) (fun k hk => .inr ((Row.of_own hown).ge hk).1)
  · by_cases hfit : n + m ≤ cap
    · have hle : (n + m) * size ≤ cap * size := Nat.mul_le_mul_right _ hfit
      have hle2 := hle
      rw [Nat.add_mul] at hle2
      have hspare : ∀ j, j < news.length → (w.cell? ⟨g, off + n * size + j, none⟩).isSome = true ∧ w.frozen? ⟨g, off + n * size + j, none⟩ = false := by
        intro j hj
        have hlt : off + n * size + j < cur.size := by omega
        exact ⟨by simp [World.cell?, hh, hlt], by simp [World.frozen?, hh]⟩
      refine step_append_room hg s x t hop e i size h1 h2 h4 g off n cap hs ad m c news hx hn hc h1c hfit hspare ?_
      obtain ⟨cur', e1, e2, e3⟩ := setCells_heap g news (off + n * size) w cur e _ hh
      refine hfin _ _ ⟨by rw [List.length_append, hl, hn, Nat.add_mul], .inr ⟨g, off, cap, cur', rfl, hgb, e1, hfit, hcm, by omega, fun j hj => ?_⟩⟩ ((setCells_only g news _ w).mono (fun k _ hk => by subst hk; rfl)) (fun k hk => .inl hk)
      rw [e3]
      rw [Nat.add_mul] at hj
      by_cases hjn : j < n * size
      · rw [if_neg (by omega), hcur j hjn, List.getElem?_append_left (by omega)]
      · rw [if_pos (by omega), List.getElem?_append_right (by omega), hl]
        congr 1
        omega
    · refine step_append_grows hg s x t hop e i z size bytes h1 h2 h3 h4 h5 h6 h7 (some ⟨g, off, none⟩) n cap xs hs (fun hb => by cases hb) hl ?_ ad m c news hx hn hc h1c (by omega) b1 b2 ?_
      · intro b hb j u hu
        cases hb
        have hj : j < n * size := by rw [← hl]; exact (List.getElem?_eq_some_iff.1 hu).1
        rw [addr_add]
        simp only [World.cell?, hh]
        rw [← hu]
        exact hcur j hj
      · intro v' w' hown hgr
        exact hfin v' w' ((Row.of_own hown).mono hbase) ((Only.refl _ w).grown hgr (by intro k hk; cases hk)) (fun k hk => .inr ((Row.of_own hown).ge hk).1)
theorem step_build_box {P : Program} {ops : Array Oper} {o : Oper} {a : Act} {w : World} {K : Act → World → Prop} {Q : Exit → Act → World → Prop} {E : Prop} (hg : o.guard = none)
    (t e : TypeId) (x : Operand) (ho : o.op = .buildSlice t 1 #[(0, x)]) (cs : List Value) (hx : a.eval x = .agg cs.toArray) (ie : TypeInfo) (z : Value) (n : Nat)
    (hu : P.underlying t = some (.slice e)) (hie : P.info? e = some ie) (hz : ie.zero = some z) (hsz : ie.size = n) (hpos : 0 < n) (hsm : n ≤ 16777216) (hn : cs.length = n)
    (h : K (a.put o.dst (.slice (some ⟨w.heap.size, 0, none⟩) 1 1)) (w.alloc (.cells cs.toArray e))) :
    if Region.wanted o (yielded ops a.tmps) = true then Oper.wp P o a w K Q else E := by
  have hw : Region.wanted o (yielded ops a.tmps) = true := by simp [Region.wanted, hg]
  rw [if_pos hw]
  refine wp_buildSlice t e 1 _ ho cs.toArray ie z hu hie hz (by rw [hsz]; omega) (by rw [hsz]; omega) ?_ h
  have hf := Great.fill_whole (s := n) hpos [.agg cs.toArray] ((Array.range (1 * ie.size)).map (z.cells[· % z.cells.size]!)) (by intro v hv; simp at hv; subst hv; simp [Value.cells, hn]) (by simp [hsz])
  rw [hsz] at hf ⊢
  simpa [hx, Value.cells] using hf
theorem step_load_one {P : Program} {ops : Array Oper} {o : Oper} {a : Act} {w : World} {K : Act → World → Prop} {Q : Exit → Act → World → Prop} {E : Prop} (hg : o.guard = none)
    (ty : TypeId) (x : Operand) (ho : o.op = .load ty x) (ad : Addr) (hx : a.eval x = .pointer (some ad)) (v : Value) (hc : w.cell? ad = some v)
    (hrun : (loadVar ty ad).run P w = .ok v w) (h : K (a.put o.dst v) w) :
    if Region.wanted o (yielded ops a.tmps) = true then Oper.wp P o a w K Q else E := by
  have hw : Region.wanted o (yielded ops a.tmps) = true := by simp [Region.wanted, hg]
  rw [if_pos hw]
  unfold Oper.wp execOp
  simp only [ho, hx, Instr.loadAt, Instr.sureAddr, Sem.run_bind, Sem.run_pure, Result.andThen_ok, hrun]
  exact h
end Go.Proofs.Ytlkglhgndfhjeaa
