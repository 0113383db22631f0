/- A slice that the call owns, wherever in its block it begins: read, cut, appended to. Over no program. -/
import Derived.Test.YtlkglhgndfhjeaaKit
import Derived.ArgAppend
namespace Go.Proofs.Ytlkglhgndfhjeaa
open Go Go.RowKit
set_option linter.unusedVariables false
set_option linter.unusedSimpArgs false

/-- v is a slice of n things (of 'size' cells each) that the call owns from block 'base' on; its cells are xs; its spare room is its own, too. -/
def Row (w : World) (base : Nat) (e : TypeId) (size : Nat) (v : Value) (n : Nat) (xs : List Value) : Prop :=
  xs.length = n * size ∧ (v = .slice none 0 0 ∧ n = 0 ∨
    ∃ g off cap cur, v = .slice (some ⟨g, off, none⟩) n cap ∧ base ≤ g ∧ w.heap[g]? = some (.cells cur e) ∧ n ≤ cap ∧ cap ≤ maxLen ∧ off + cap * size ≤ cur.size ∧
      ∀ j, j < n * size → cur[off + j]? = xs[j]?)

theorem Row.nil (w : World) (base : Nat) (e : TypeId) (size : Nat) : Row w base e size (.slice none 0 0) 0 [] := ⟨by simp, .inl ⟨rfl, rfl⟩⟩
theorem Row.only {S : Nat → Prop} {w w' : World} {base : Nat} {e : TypeId} {size : Nat} {v : Value} {n : Nat} {xs : List Value} (h : Row w base e size v n xs) (ho : Only S w w') (hS : ∀ k, base ≤ k → v.ownBlock = some k → ¬ S k) : Row w' base e size v n xs := by
  obtain ⟨h1, h2⟩ := h
  refine ⟨h1, ?_⟩
  rcases h2 with h2 | ⟨g, off, cap, cur, hv, hg, hh, r⟩
  · exact Or.inl h2
  · subst hv
    exact Or.inr ⟨g, off, cap, cur, rfl, hg, by rw [ho.block _ (Array.getElem?_eq_some_iff.1 hh).1 (hS g hg rfl)]; exact hh, r⟩
theorem Row.mono {w : World} {base B : Nat} {e : TypeId} {size : Nat} {v : Value} {n : Nat} {xs : List Value} (h : Row w base e size v n xs) (hB : B ≤ base) : Row w B e size v n xs := by
  obtain ⟨h1, h2⟩ := h
  refine ⟨h1, ?_⟩
  rcases h2 with h2 | ⟨g, off, cap, cur, hv, hg, r⟩
  · exact Or.inl h2
  · exact Or.inr ⟨g, off, cap, cur, hv, by omega, r⟩
theorem Row.ge {w : World} {base : Nat} {e : TypeId} {size : Nat} {v : Value} {n : Nat} {xs : List Value} (h : Row w base e size v n xs) {k : Nat} (hk : v.ownBlock = some k) : base ≤ k ∧ k < w.heap.size := by
  obtain ⟨h1, h2⟩ := h
  rcases h2 with ⟨rfl, _⟩ | ⟨g, off, cap, cur, rfl, hg, hh, _⟩
  · simp [Value.ownBlock] at hk
  · simp [Value.ownBlock] at hk; subst hk; exact ⟨hg, (Array.getElem?_eq_some_iff.1 hh).1⟩
theorem Row.le {w : World} {base : Nat} {e : TypeId} {size : Nat} {v : Value} {n : Nat} {xs : List Value} (h : Row w base e size v n xs) : n ≤ maxLen := by
  obtain ⟨h1, h2⟩ := h
  rcases h2 with ⟨rfl, rfl⟩ | ⟨g, off, cap, cur, rfl, hg, hh, h3, h4, _⟩
  · exact Nat.zero_le _
  · omega
theorem Row.of_own {w : World} {base : Nat} {e : TypeId} {size : Nat} {v : Value} {n : Nat} {xs : List Value} (h : w.ownsRow base e size v n xs) : Row w base e size v n xs := by
  obtain ⟨h1, h2⟩ := h
  refine ⟨h1, ?_⟩
  rcases h2 with h2 | ⟨g, cap, cur, hv, hg, hh, h3, h4, h5, rfl⟩
  · exact Or.inl h2
  · refine Or.inr ⟨g, 0, cap, cur, hv, hg, hh, h3, h4, by omega, fun j hj => ?_⟩
    rw [List.getElem?_take, if_pos hj]; simp
/-- What the walk is told: the slice's shape, and each cell. -/
theorem Row.slice {w : World} {base : Nat} {e : TypeId} {size : Nat} {v : Value} {n : Nat} {xs : List Value} (h : Row w base e size v n xs) :
    ∃ a cap, v = .slice a n cap ∧ n ≤ cap ∧ cap ≤ maxLen ∧ ∀ k, k < n → ∃ g off, a = some ⟨g, off, none⟩ ∧ base ≤ g ∧ g < w.heap.size ∧
      ∀ j, j < size → w.cell? ⟨g, off + (k * size + j), none⟩ = xs[k * size + j]? ∧ w.frozen? ⟨g, off + (k * size + j), none⟩ = false := by
  obtain ⟨h1, h2⟩ := h
  rcases h2 with ⟨rfl, rfl⟩ | ⟨g, off, cap, cur, rfl, hg, hh, h3, h4, h5, h6⟩
  · exact ⟨_, _, rfl, Nat.le_refl _, Nat.zero_le _, fun k hk => by omega⟩
  · refine ⟨_, _, rfl, h3, h4, fun k hk => ⟨g, off, rfl, hg, (Array.getElem?_eq_some_iff.1 hh).1, fun j hj => ⟨?_, by simp [World.frozen?, hh]⟩⟩⟩
    have hlt : k * size + j < n * size := by
      have : (k + 1) * size ≤ n * size := Nat.mul_le_mul_right _ hk
      rw [Nat.succ_mul] at this; omega
    simp only [World.cell?, hh]
    exact h6 _ hlt
/-- 'v[lo:]', 'v[:hi]', 'v[lo:hi]' of things of one cell: the value that the walk comes to. -/
theorem Row.cut {w : World} {base : Nat} {e : TypeId} {size : Nat} {a : Option Addr} {n cap : Nat} {xs : List Value} (h : Row w base e size (.slice a n cap) n xs) {lo hi : Nat} (h1 : lo ≤ hi) (h2 : hi ≤ n) :
    Row w base e size (.slice (if cap = lo then a else a.map (fun x => x.add (lo * size))) (hi - lo) (cap - lo)) (hi - lo) ((xs.drop (lo * size)).take ((hi - lo) * size)) := by
  obtain ⟨hl, hr⟩ := h
  have hm : hi * size ≤ n * size := Nat.mul_le_mul_right _ h2
  have hm1 : lo * size ≤ hi * size := Nat.mul_le_mul_right _ h1
  have hs : (hi - lo) * size = hi * size - lo * size := Nat.sub_mul _ _ _
  refine ⟨by rw [List.length_take, List.length_drop]; omega, ?_⟩
  rcases hr with ⟨hv, rfl⟩ | ⟨g, off, c, cur, hv, hg, hh, h3, h4, h5, h6⟩
  · cases hv
    have e1 : lo = 0 := by omega
    have e2 : hi = 0 := by omega
    subst e1; subst e2
    exact Or.inl ⟨by simp, rfl⟩
  · cases hv
    right
    by_cases hc : cap = lo
    · rw [if_pos hc]
      have e1 : hi = lo := by omega
      subst e1
      refine ⟨g, off, cap - hi, cur, by rw [Nat.sub_self], hg, hh, by omega, by omega, ?_, fun j hj => by simp at hj⟩
      have : (cap - hi) * size ≤ cap * size := Nat.mul_le_mul_right _ (by omega)
      omega
    · rw [if_neg hc]
      refine ⟨g, off + lo * size, cap - lo, cur, by simp [addr_add], hg, hh, by omega, by omega, ?_, fun j hj => ?_⟩
      · have : (cap - lo) * size = cap * size - lo * size := Nat.sub_mul _ _ _
        have : lo * size ≤ cap * size := Nat.mul_le_mul_right _ (by omega)
        omega
      · rw [Nat.add_assoc, h6 (lo * size + j) (by omega), List.getElem?_take, if_pos hj, List.getElem?_drop]

theorem setCells_heap (b : Nat) : ∀ (vs : List Value) (o : Nat) (w : World) (cur : Array Value) (e : TypeId) (fr : Nat × Nat), w.heap[b]? = some (.cells cur e fr) →
    ∃ cur', (w.setCells b o vs).heap[b]? = some (.cells cur' e fr) ∧ cur'.size = cur.size ∧ ∀ j, cur'[j]? = if o ≤ j ∧ j < o + vs.length ∧ j < cur.size then vs[j - o]? else cur[j]?
  | [], o, w, cur, e, fr, h => ⟨cur, h, rfl, fun j => by rw [if_neg (by simp; omega)]⟩
  | v :: vs, o, w, cur, e, fr, h => by
    obtain ⟨c2, h1, h2, h3⟩ := setCells_heap b vs (o + 1) (w.setCell ⟨b, o, none⟩ v) _ e fr (heap_set h v)
    refine ⟨c2, h1, by rw [h2]; simp, fun j => ?_⟩
    rw [h3 j]
    simp only [Array.size_setIfInBounds, List.length_cons]
    by_cases hj : j = o
    · subst hj
      rw [if_neg (by omega)]
      by_cases hb : j < cur.size
      · rw [if_pos ⟨Nat.le_refl _, by omega, hb⟩]; simp [hb]
      · rw [if_neg (by omega)]; simp [hb]
    · by_cases hc : o ≤ j ∧ j < o + (vs.length + 1) ∧ j < cur.size
      · rw [if_pos hc, if_pos (by omega), show j - o = (j - (o + 1)) + 1 from by omega]; simp
      · rw [if_neg hc, if_neg (by omega), Array.getElem?_setIfInBounds_ne (by omega)]
theorem setCells_only (b : Nat) : ∀ (vs : List Value) (o : Nat) (w : World), Only (· = b) w (w.setCells b o vs)
  | [], _, _ => Only.refl _ _
  | v :: vs, o, w => ((Only.refl (· = b) w).setCell (p := ⟨b, o, none⟩) (.inl rfl) v).trans (setCells_only b vs (o + 1) _)

/-- append onto a row that the call owns: whichever arm is taken. -/
theorem wpList_append_row {P : Program} (w : World) {ops : Array Oper} {rest : List Oper} {o : Oper} {a : Act} {Q : Exit → Act → World → Prop} (hg : o.guard = none)
    (s x : Operand) (t : TypeId) (hop : o.op = .call { callee := .builtin .append, args := #[s, x], argTypes := #[t, t] }) (base : Nat) (e : TypeId) (i : TypeInfo) (z : Value)
    (size bytes : Nat) (h1 : P.underlying t = some (.slice e)) (h2 : P.info? e = some i) (h3 : i.zero = some z) (h4 : i.size = size) (h5 : i.bytes = bytes) (h6 : z.cells.size = size)
    (h7 : 0 < size) (v : Value) (n : Nat) (xs : List Value) (hs : a.eval s = v) (hrow : Row w base e size v n xs) (ad : Addr) (m c : Nat) (news : List Value)
    (hx : a.eval x = .slice (some ad) m c) (hn : news.length = m * size) (hc : ∀ (j : Nat) (u : Value), news[j]? = some u → w.cell? (ad.add j) = some u)
    (h1c : ∀ (u : Value), u ∈ news → u.oneCell' = true) (b1 : n + m ≤ maxLen) (b2 : (n + m) * bytes ≤ 140737488355328) (hbase : base ≤ w.heap.size)
    (h : ∀ (v' : Value) (w' : World), Row w' base e size v' (n + m) (xs ++ news) → Only (fun k => v.ownBlock = some k) w w' → (v' = .slice none 0 0 → n + m = 0) → (∀ k, v'.ownBlock = some k → v.ownBlock = some k ∨ w.heap.size ≤ k) → wpList P ops Q rest (a.put o.dst v') w') :
    wpList P ops Q (o :: rest) a w := by
  obtain ⟨hl, hr⟩ := hrow
  rcases hr with ⟨rfl, rfl⟩ | ⟨g, off, cap, cur, rfl, hgb, hh, hcap, hcm, hroom, hcur⟩
  · refine wpList_append_own w hg s x t hop w.heap.size e i z size bytes h1 h2 h3 h4 h5 h6 h7 _ 0 xs hs ⟨hl, .inl ⟨rfl, rfl⟩⟩ ad m c news hx hn hc h1c b1 b2 (Nat.le_refl _) ?_
    intro v' w' hown hgr hnil
    have hgrow : w.grownBy w' none := hgr
    have ho : Only (fun k => (Value.slice none 0 0).ownBlock = some k) w w' := (Only.refl _ w).grown hgrow (by intro k hk; cases hk)
    exact h v' w' ((Row.of_own hown).mono hbase) ho (fun e => by have := (hnil.1 e).2; omega) (fun k hk => .inr ((Row.of_own hown).ge hk).1)
  · refine wpList_append_arg w hg s x t hop e i z size bytes h1 h2 h3 h4 h5 h6 h7 g off n cap xs hs hl ?_ ad m c news hx hn hc h1c ?_ b1 b2 ?_ ?_
    · intro j u hu
      have hj : j < n * size := by rw [← hl]; exact (List.getElem?_eq_some_iff.1 hu).1
      simp only [World.cell?, hh]
      rw [← hu]
      exact hcur j hj
    · intro hfit j hj
      have hle : (n + m) * size ≤ cap * size := Nat.mul_le_mul_right _ hfit
      rw [Nat.add_mul] at hle
      have hlt : off + n * size + j < cur.size := by omega
      exact ⟨by simp [World.cell?, hh, hlt], by simp [World.frozen?, hh]⟩
    · intro hfit
      have hle : (n + m) * size ≤ cap * size := Nat.mul_le_mul_right _ hfit
      obtain ⟨cur', e1, e2, e3⟩ := setCells_heap g news (off + n * size) w cur e _ hh
      refine h _ _ ⟨by rw [List.length_append, hl, hn, Nat.add_mul], .inr ⟨g, off, cap, cur', rfl, hgb, e1, hfit, hcm, by omega, fun j hj => ?_⟩⟩ ((setCells_only g news _ w).mono (fun k _ hk => by subst hk; rfl)) (fun e => by cases e) (fun k hk => .inl hk)
      rw [e3]
      rw [Nat.add_mul] at hj hle
      by_cases hjn : j < n * size
      · rw [if_neg (by omega), hcur j hjn, List.getElem?_append_left (by omega)]
      · rw [if_pos (by omega), List.getElem?_append_right (by omega), hl]
        congr 1
        omega
    · intro hgt v' w' hown hgr
      have ho : Only (fun k => (Value.slice (some ⟨g, off, none⟩) n cap).ownBlock = some k) w w' := (Only.refl _ w).grown hgr (by intro k hk; cases hk)
      refine h v' w' ((Row.of_own hown).mono hbase) ho (fun e => ?_) (fun k hk => .inr ((Row.of_own hown).ge hk).1)
      subst e
      obtain ⟨_, hh2⟩ := hown
      rcases hh2 with ⟨_, h0⟩ | ⟨_, _, _, he, _⟩
      · exact h0
      · cases he
end Go.Proofs.Ytlkglhgndfhjeaa
