/- How long a value's bytes are, if it is of the form and not too great: plain. Arguments that came in, opened with what they weigh: what a client asks. columbarylaw17.ask: the document's frame. columbarylaw17.LinkAsks: the walk. -/
import Derived.Test.YtoojnpafcdaflaaDec
import Derived.Test.YtoojnpafcdaflaaLfr
import Derived.Test.YtoojnpafcdaflaaRows
import Derived.Test.YtoojnpafcdaflaaLdt
import Derived.Test.YtoojnpafcdaflaaLnkA
namespace Go.Proofs.Ytoojnpafcdaflaa
open Go Go.RowKit
set_option linter.unusedVariables false
set_option linter.unusedSimpArgs false

theorem encT_leN {s : List UInt8} {n : Nat} (h : s.length ≤ n) (hn : n < 16384) : (encT s).length ≤ n + 2 := by
  unfold encT
  rw [List.length_append]
  have := encU_len (k := 1) (n := s.length) (by omega)
  omega
theorem cntVs_mono : ∀ (vs : List VT) (d : Nat) (m c : Int), c ≤ cntVs vs d m c
  | [], _, _, _ => by simp only [cntVs]; exact Int.le_refl _
  | v :: vs, d, m, c => by
    simp only [cntVs]
    split
    · rename_i h
      have h1 := cntV_le v (d + 1) (m - c) (by omega)
      have h2 := cntVs_mono vs d m (c + cntV v (d + 1) (m - c))
      omega
    · exact Int.le_refl _
mutual
theorem enc_len : ∀ (t : VT) (d : Nat) (m : Int), SmallV t → 0 ≤ m → formV t d = true → cntV t d m ≤ m → ((encV t).length : Int) + 40 ≤ 300 * cntV t d m
  | .mk k n s ks vs, d, m, hs, hm, hf, hc => by
    simp only [SmallV] at hs
    obtain ⟨⟨h1, h2, h3, h4, h5, h6, h7, h8, h9⟩, hvs⟩ := formV_mk hf
    simp only [cntV] at hc ⊢
    rw [if_neg (by omega)] at hc ⊢
    split at hc
    · omega
    · rename_i hn
      rw [if_neg hn]
      have hrec := encs_len (decide (k = 6)) ks vs d m 1 hs.2 (by omega) hvs hc
      have hk : (encU k).length = 1 := by rw [encU_small (by omega)]; rfl
      have hmono := cntVs_mono vs d m 1
      simp only [encV, List.length_append, hk]
      split
      · have := encU_len10 (zig_lt hs.1.1 hs.1.2)
        omega
      · split
        · have := encT_leN h4 (by decide)
          omega
        · split
          · have := encU_len (k := 1) (n := vs.length) (by omega)
            rw [List.length_append]
            omega
          · simp
            omega
theorem encs_len : ∀ (o : Bool) (ks : List (List UInt8)) (vs : List VT) (d : Nat) (m c : Int), SmallVs vs → 1 ≤ c → formVs o ks vs (d + 1) = true → cntVs vs d m c ≤ m → ((encVs o ks vs).length : Int) + 300 * c ≤ 300 * cntVs vs d m c
  | _, _, [], _, _, _, _, _, _, _ => by simp only [cntVs, encVs]; simp
  | o, ks, v :: vs, d, m, c, hs, h1, hf, hc => by
    obtain ⟨g1, g2, g3⟩ := formVs_cons hf
    simp only [cntVs] at hc ⊢
    split at hc
    · rename_i hcm
      rw [if_pos hcm]
      have hm := cntVs_mono vs d m (c + cntV v (d + 1) (m - c))
      have hr := encs_len o ks.tail vs d m (c + cntV v (d + 1) (m - c)) hs.2 (by have := cntV_le v (d + 1) (m - c) (by omega); omega) g3 hc
      have hv := enc_len v (d + 1) (m - c) hs.1 (by omega) g2 (by omega)
      simp only [encVs, List.length_append]
      have hk : (if o then encT (ks.headD []) else []).length ≤ 34 := by
        cases o
        · simp
        · simp only [if_true]; exact encT_leN (g1 rfl) (by decide)
      omega
    · omega
end
theorem form_len {t : VT} (hs : SmallV t) (hg : greatV t = false) (hf : formV t 0 = true) : (encV t).length ≤ 900000 := by
  have hc : cntV t 0 3000 ≤ 3000 := by simpa [greatV] using hg
  have := enc_len t 0 3000 hs (by decide) hf hc
  omega
end Go.Proofs.Ytoojnpafcdaflaa
namespace Go.Proofs.Ytoojnpafcdaflaa
open Go Go.RowKit
set_option linter.unusedVariables false
set_option linter.unusedSimpArgs false
set_option maxRecDepth 100000
section
variable {H : Type} {enc : TypeId × Value → H} {P : Program}
theorem bulk_one (d : DataW H) : 1 ≤ Rows.uptoBulk d := by
  cases d with
  | lit l => cases l <;> simp [Rows.uptoBulk]
  | nil => simp [Rows.uptoBulk]
  | ptr d => simp [Rows.uptoBulk]
  | slice elems spare => simp [Rows.uptoBulk]
  | agg parts => simp [Rows.uptoBulk]
  | iface t d => simp [Rows.uptoBulk]
  | map entries => simp [Rows.uptoBulk]
  | held h => simp [Rows.uptoBulk]
theorem bulk_part {d : DataW H} {l : List (DataW H)} (h : d ∈ l) : Rows.uptoBulk d ≤ Rows.uptoBulkAll l := by
  induction l with
  | nil => cases h
  | cons x r ih =>
    simp only [Rows.uptoBulkAll]
    cases List.mem_cons.1 h with
    | inl e => subst e; omega
    | inr e => have := ih e; omega
/-- A slice that came in: its elements, what they weigh. -/
theorem slice_of_trod_b {w : World} {t e : TypeId} {fuel : Nat} {cs : List Value} {x : DataW H × List MemPlace} {size : Nat}
    (ht : P.underlying t = some (.slice e)) (hE : P.cellsOf e = size) (hs : 0 < size)
    (h : DataW.trod enc P w 0 (fun _ => true) true fuel t cs = some x) :
    ∃ a len cap, cs = [.slice a len cap] ∧ len ≤ cap ∧ cap ≤ maxLen ∧
      (0 < len → ∃ b off n, a = some ⟨b, off, none⟩ ∧ fuel = n + 1 ∧ b < w.heap.size ∧ ∀ i, i < len → ∃ cs' y, cs'.length = size ∧ w.rangeAt b (off + i * size) cs' ∧ DataW.trod enc P w 0 (fun _ => true) true n e cs' = some y ∧ Rows.uptoBulk y.1 ≤ Rows.uptoBulk x.1) := by
  rcases DataW.trod_slice ht h with ⟨rfl, _⟩ | ⟨a, len, cap, elems, rest, n, hn, rfl, hx, hb, hl, hm, hlen, hel, _, _⟩
  · exact ⟨none, 0, 0, rfl, Nat.le_refl _, Nat.zero_le _, fun h => absurd h (by decide)⟩
  · refine ⟨some a, len, cap, rfl, hl, hm, fun hp => ?_⟩
    have hbulk : ∀ y ∈ elems, Rows.uptoBulk y.1 ≤ Rows.uptoBulk x.1 := fun y hy => by
      have h1 := bulk_part (d := y.1) (l := elems.map (·.1)) (List.mem_map_of_mem hy)
      rw [hx]
      simp only [Rows.uptoBulk]
      omega
    have hget : ∀ i, i < len → ∃ cs' y, w.cells? 0 (a.add (i * P.cellsOf e)) (P.cellsOf e) = some cs' ∧ DataW.trod enc P w 0 (fun _ => true) true n e cs' = some y ∧ y ∈ elems := by
      intro i hi
      have := hel i hi
      rw [List.getElem?_eq_getElem (by omega)] at this
      obtain ⟨cs', h1, h2⟩ := Option.bind_eq_some_iff.1 this
      exact ⟨cs', _, h1, h2, List.getElem_mem _⟩
    obtain ⟨b, off, spot⟩ := a
    have hsp : spot = none := by
      obtain ⟨cs', _, h1, _⟩ := hget 0 hp
      obtain ⟨hlen, hcell⟩ := (World.cells?_some h1).2
      have hc0 := hcell 0 (by rw [hE]; exact hs)
      have hx : ∃ x, cs'[0]? = some x := ⟨cs'[0]'(by rw [hlen, hE]; exact hs), List.getElem?_eq_getElem _⟩
      obtain ⟨x, hx⟩ := hx
      rw [hx] at hc0
      simpa [Addr.add] using World.cell?_spot hc0
    subst hsp
    refine ⟨b, off, n, rfl, hn, ?_, fun i hi => ?_⟩
    · obtain ⟨cs', _, h1, _⟩ := hget 0 hp
      have hblk := World.cells?_block h1 (by rw [hE]; exact hs)
      rw [addr_add] at hblk; exact hblk
    · obtain ⟨cs', y, h1, h2, h3⟩ := hget i hi
      obtain ⟨hlen, hcell⟩ := (World.cells?_some h1).2
      rw [hE] at hlen hcell
      refine ⟨cs', y, hlen, fun j v hv => ?_, h2, hbulk y h3⟩
      have hj : j < size := by have := (List.getElem?_eq_some_iff.1 hv).1; omega
      have := hcell j hj
      rw [Go.Deep.add_add, addr_add, hv] at this
      rw [← this, Nat.add_assoc]
/-- A row of things out of such a slice. -/
theorem rows_of {α : Type} {n : Nat} {Pr : World → (Nat → Prop) → α → List Value → Prop} {Q : α → Prop} {w : World} {G : Nat → Prop} {b : Nat} : ∀ (len off : Nat), (∀ i, i < len → ∃ cs, cs.length = n ∧ w.rangeAt b (off + i * n) cs ∧ ∃ x, Pr w G x cs ∧ Q x) → ∃ xs : List α, xs.length = len ∧ RowAt n Pr w G xs b off ∧ ∀ x ∈ xs, Q x
  | 0, _, _ => ⟨[], rfl, trivial, fun x hx => by cases hx⟩
  | len + 1, off, h => by
    obtain ⟨cs, h1, h2, x, h3, h4⟩ := h 0 (by omega)
    rw [Nat.zero_mul, Nat.add_zero] at h2
    obtain ⟨xs, g1, g2, g3⟩ := rows_of len (off + n) (fun i hi => by
      have := h (i + 1) (by omega)
      rw [show off + (i + 1) * n = off + n + i * n from by rw [Nat.add_mul]; omega] at this
      exact this)
    exact ⟨x :: xs, by simp [g1], ⟨⟨cs, h1, h2, h3⟩, g2⟩, fun y hy => by
      rcases List.mem_cons.1 hy with e | hy
      · subst e; exact h4
      · exact g3 y hy⟩
theorem str_cell_b {w : World} {n : Nat} {t : TypeId} {cs : List Value} {x : DataW H × List MemPlace} (ht : P.underlying t = some .string) (h : DataW.trod enc P w 0 (fun _ => true) true n t cs = some x) :
    ∃ s : List UInt8, cs = [strV s] ∧ s.length ≤ maxLen ∧ s.length ≤ Rows.uptoBulk x.1 := by
  obtain ⟨s, rfl, hx, hs⟩ := DataW.trod_string ht h
  refine ⟨s.data.toList, by simp [strV], ?_, ?_⟩
  · rw [Array.length_toList]; exact hs
  · rw [hx]; simp [Rows.uptoBulk]
theorem texts_of_slice_b {w : World} {fuel : Nat} {cs : List Value} {x : DataW H × List MemPlace} (h : DataW.trod enc Try.prog w 0 (fun _ => true) true fuel 32 cs = some x) :
    ∃ (ks : List (List UInt8)) (a : Option Addr) (c : Nat), cs = [.slice a ks.length c] ∧ Fits ks.length c ∧ ListAt 1 TextP w (fun q => q < w.heap.size) a ks ∧ (∀ s ∈ ks, s.length ≤ maxLen) ∧ ∀ s ∈ ks, s.length ≤ Rows.uptoBulk x.1 := by
  obtain ⟨ak, lk, ck, g3, lk1, ck1, hK⟩ := slice_of_trod_b (size := 1) Try.underlying32 (by kernel_rfl) (by decide) h
  rcases Nat.eq_zero_or_pos lk with h0 | h0
  · subst h0
    exact ⟨[], ak, ck, g3, ⟨Nat.zero_le _, ck1⟩, ListAt.nil, (fun s hs => by cases hs), (fun s hs => by cases hs)⟩
  · obtain ⟨b, off, n, rfl, hn, hb, hi⟩ := hK h0
    obtain ⟨ks, h1, h2, h3⟩ := rows_of (Pr := TextP) (G := fun q => q < w.heap.size) (Q := fun s => s.length ≤ maxLen ∧ s.length ≤ Rows.uptoBulk x.1) (w := w) (b := b) (n := 1) lk off (fun i hi' => by
      obtain ⟨cs', y, q1, q2, q3, q4⟩ := hi i hi'
      obtain ⟨s, rfl, q5, q6⟩ := str_cell_b Try.underlying9 q3
      exact ⟨[strV s], rfl, q2, s, rfl, q5, Nat.le_trans q6 q4⟩)
    subst h1
    exact ⟨ks, _, ck, g3, ⟨lk1, ck1⟩, fun _ => ⟨b, off, rfl, hb, hb, h2⟩, fun s hs => (h3 s hs).1, fun s hs => (h3 s hs).2⟩
theorem mut_cells : Try.prog.cellsOf 64 = 7 := by kernel_rfl
theorem seven_cells {α : Type} {cs : List α} (h : cs.length = 7) : ∃ a b c d e f g, cs = [a, b, c, d, e, f, g] := by
  match cs, h with
  | [a, b, c, d, e, f, g], _ => exact ⟨a, b, c, d, e, f, g, rfl⟩
theorem mut_of_trod_b (w : World) (fuel : Nat) (cs : List Value) (x : DataW H × List MemPlace) (hf : DataW.trod enc Try.prog w 0 (fun _ => true) true fuel 64 cs = some x) :
    ∃ m, MutP w (fun q => q < w.heap.size) m cs ∧ SmallV m.2.2 ∧ m.2.1.length ≤ Rows.uptoBulk x.1 := by
  obtain ⟨xs, m, rfl, hx, hl, hxl, hf'⟩ := DataW.trod_struct Try.underlying64 hf
  obtain ⟨e0, e1, e2, e3, e4, e5, e6, rfl⟩ := seven_cells (hl.trans mut_cells)
  obtain ⟨y0, y1, y2, rfl⟩ : ∃ y0 y1 y2, xs = [y0, y1, y2] := by
    match xs, hxl with
    | [a, b, c], _ => exact ⟨a, b, c, rfl⟩
  have f0 := field_at hf' 0 40 0 1 rfl (by kernel_rfl)
  have f1 := field_at hf' 1 9 1 1 rfl (by kernel_rfl)
  have f2 := field_at hf' 2 35 2 5 rfl value_cells
  obtain ⟨q, g0, k0, k1⟩ := int_cell Try.underlying40 f0
  obtain ⟨s, g1, s1, s2⟩ := str_cell_b Try.underlying9 f1
  obtain ⟨t, ht⟩ := val_of_trod w m _ _ f2
  simp at g0 g1 ht
  subst g0; subst g1
  simp [IntKind.min, IntKind.max, IntKind.signed, IntKind.bits] at k0 k1
  have hb : Rows.uptoBulk y1.1 ≤ Rows.uptoBulk x.1 := by
    rw [hx]
    simp only [List.map_cons, List.map_nil, Rows.uptoBulk, Rows.uptoBulkAll]
    omega
  refine ⟨(q.toNat, s, t), ⟨[e2, e3, e4, e5, e6], by rw [Int.toNat_of_nonneg k0]; rfl, by show q.toNat < _; omega, by show s.length ≤ _; unfold maxLen at s1; omega, ht⟩, valAt_small t _ ht, Nat.le_trans s2 hb⟩
theorem ask_cells : Try.prog.cellsOf 89 = 4 := by kernel_rfl
theorem ask_of_Trod {w : World} {v : Value} {d : DataW H} {p : List MemPlace} (h : DataW.Trod enc Try.prog w 0 (fun _ => true) true 89 v d p) :
    ∃ (c : Int) (ks : List (List UInt8)) (since : Nat) (ms : List (Nat × List UInt8 × VT)) (ak : Option Addr) (ck : Nat) (al : Option Addr) (cl : Nat), v = .agg #[.int .i64 c, .slice ak ks.length ck, .int .u64 since, .slice al ms.length cl] ∧ -9223372036854775808 ≤ c ∧ c ≤ 9223372036854775807 ∧ since < 18446744073709551616 ∧ Fits ks.length ck ∧ Fits ms.length cl ∧
      ListAt 1 TextP w (fun q => q < w.heap.size) ak ks ∧ ListAt 7 MutP w (fun q => q < w.heap.size) al ms ∧ (∀ s ∈ ks, s.length ≤ maxLen ∧ s.length ≤ Rows.uptoBulk d) ∧ ∀ x ∈ ms, SmallV x.2.2 ∧ x.2.1.length ≤ Rows.uptoBulk d := by
  obtain ⟨fuel, hf⟩ := h
  obtain ⟨xs, m, rfl, hx, hl, hxl, hf'⟩ := DataW.trod_struct Try.underlying89 hf
  obtain ⟨e0, e1, e2, e3, hcs⟩ := list4 (hl.trans ask_cells)
  rw [hcs] at hf'
  obtain ⟨y0, y1, y2, y3, rfl⟩ := list4 (hxl.trans rfl)
  have f0 := field_at hf' 0 3 0 1 rfl (by kernel_rfl)
  have f1 := field_at hf' 1 32 1 1 rfl (by kernel_rfl)
  have f2 := field_at hf' 2 40 2 1 rfl (by kernel_rfl)
  have f3 := field_at hf' 3 87 3 1 rfl (by kernel_rfl)
  obtain ⟨c, g0, k0, k1⟩ := int_cell Try.underlying3 f0
  obtain ⟨ks, ak, ck, g1, q1, q2, q3, q4⟩ := texts_of_slice_b f1
  obtain ⟨since, g2, k2, k3⟩ := int_cell Try.underlying40 f2
  obtain ⟨al, ll, cl, g3, ll1, cl1, hM⟩ := slice_of_trod_b Try.underlying87 mut_cells (by decide) f3
  simp at g0 g1 g2 g3
  subst g0; subst g1; subst g2; subst g3
  simp [IntKind.min, IntKind.max, IntKind.signed, IntKind.bits] at k0 k1 k2 k3
  simp only [Prod.mk.injEq] at hx
  obtain ⟨hd, _⟩ := hx
  have hb1 : Rows.uptoBulk y1.1 ≤ Rows.uptoBulk d := by
    rw [hd]; simp only [List.map_cons, List.map_nil, Rows.uptoBulk, Rows.uptoBulkAll]; omega
  have hb3 : Rows.uptoBulk y3.1 ≤ Rows.uptoBulk d := by
    rw [hd]; simp only [List.map_cons, List.map_nil, Rows.uptoBulk, Rows.uptoBulkAll]; omega
  have hms : ∃ ms : List (Nat × List UInt8 × VT), ms.length = ll ∧ ListAt 7 MutP w (fun q => q < w.heap.size) al ms ∧ ∀ x ∈ ms, SmallV x.2.2 ∧ x.2.1.length ≤ Rows.uptoBulk d := by
    rcases Nat.eq_zero_or_pos ll with h0 | h0
    · exact ⟨[], by rw [h0]; rfl, ListAt.nil, fun x hx => by cases hx⟩
    · obtain ⟨b, off, n, rfl, hn, hb, hi⟩ := hM h0
      obtain ⟨ms, h1, h2, h3⟩ := rows_of (Pr := MutP) (G := fun q => q < w.heap.size) (Q := fun x => SmallV x.2.2 ∧ x.2.1.length ≤ Rows.uptoBulk d) (w := w) (b := b) (n := 7) ll off (fun i hi' => by
        obtain ⟨cs', y, q1, q2, q3, q4⟩ := hi i hi'
        obtain ⟨mm, r1, r2, r3⟩ := mut_of_trod_b w n cs' y q3
        exact ⟨cs', q1, q2, mm, r1, r2, Nat.le_trans r3 (Nat.le_trans q4 hb3)⟩)
      exact ⟨ms, h1, fun _ => ⟨b, off, rfl, hb, hb, h2⟩, h3⟩
  obtain ⟨ms, rfl, hml, hmq⟩ := hms
  refine ⟨c, ks, since.toNat, ms, ak, ck, al, cl, ?_, k0, k1, by omega, q1, ⟨ll1, cl1⟩, q2, hml, fun s hs => ⟨q3 s hs, Nat.le_trans (q4 s hs) hb1⟩, hmq⟩
  rw [Int.toNat_of_nonneg k2]
  exact agg_of_cells hcs (by simp)
end
end Go.Proofs.Ytoojnpafcdaflaa
namespace Go.Proofs.Ytoojnpafcdaflaa
open Go Go.RowKit
set_option linter.unusedVariables false
set_option linter.unusedSimpArgs false
set_option maxRecDepth 100000

theorem range7p {w : World} {b off : Nat} {c0 c1 c2 c3 c4 c5 c6 : Value} (h : w.rangeAt b off [c0, c1, c2, c3, c4, c5, c6]) :
    w.cell? ⟨b, off, none⟩ = some c0 ∧ w.cell? ⟨b, off + 1, none⟩ = some c1 ∧ w.cell? ⟨b, off + 2, none⟩ = some c2 ∧ w.cell? ⟨b, off + 2 + 1, none⟩ = some c3 ∧ w.cell? ⟨b, off + 2 + 2, none⟩ = some c4 ∧ w.cell? ⟨b, off + 2 + 3, none⟩ = some c5 ∧ w.cell? ⟨b, off + 2 + 4, none⟩ = some c6 :=
  ⟨h 0 _ rfl, h 1 _ rfl, h 2 _ rfl, h 3 _ rfl, h 4 _ rfl, h 5 _ rfl, h 6 _ rfl⟩
theorem abox1 (w : World) (e0 e1 e2 e3 : Value) : ∃ wb, wb = w.alloc (.cells #[e0, e1, e2, e3] 89) ∧ Only (fun _ => False) w wb ∧ ∀ w', Only (fun _ => False) wb w' → w'.heap[w.heap.size]? = some (.cells #[e0, e1, e2, e3] 89 (0, 0)) := by
  refine ⟨_, rfl, (Only.refl _ w).alloc _, fun w' ho => ?_⟩
  have h := heap_new w (.cells #[e0, e1, e2, e3] 89)
  rw [ho.block _ (Array.getElem?_eq_some_iff.1 h).1 (fun h => h)]; exact h
set_option maxHeartbeats 16000000 in
theorem rAsk (t : AskV) (G : Nat → Prop) (w : World) (cs : List Value) (h : AskAt w G t cs) (hE : ∀ x ∈ t.ms, GoodV x.2.2 ∧ (encV x.2.2).length ≤ 1000000)
    (hk : t.ks.length ≤ 1000000 ∧ t.ms.length ≤ 1000000) (hl : (encAsk t).length ≤ 100000000) :
    Calls Try.prog 55 #[.agg cs.toArray] w (Makes w (encAsk t)) := by
  obtain ⟨c, ks, since, xs⟩ := t
  obtain ⟨ak, ck, ax, cx, rfl, h1, h2, h5, h6, h8, h9⟩ := h
  simp only at h1 h2 h5 h6 h8 h9 hE hk ⊢
  obtain ⟨hk1, hk2⟩ := hk
  have hlens : (encU 1).length + (encU c).length + (encQ encT ks).length + (encU since).length + (encU xs.length).length + (encF encM1 xs).length = (encAsk (⟨c, ks, since, xs⟩ : AskV)).length := by
    unfold encAsk
    simp only [List.length_append]
    rw [show (encQ encM1 xs).length = (encU xs.length).length + (encF encM1 xs).length from by unfold encQ; rw [List.length_append]]
    omega
  rw [← hlens] at hl
  have hfull : encAsk (⟨c, ks, since, xs⟩ : AskV) = encU 1 ++ encU c ++ encQ encT ks ++ encU since ++ encU xs.length ++ encF encM1 xs := by
    unfold encAsk encQ
    simp only [List.append_assoc]
  rw [hfull]
  clear hlens hfull
  obtain ⟨wb, hwb, ob, hbx⟩ := abox1 w (.int .i64 c) (.slice ak ks.length ck) (.int .u64 since) (.slice ax xs.length cx)
  have hB : ∀ w', Only (fun _ => False) wb w' → w'.heap[w.heap.size]? = some (.cells #[.int .i64 c, .slice ak ks.length ck, .int .u64 since, .slice ax xs.length cx] 89 (0, 0)) ∧ ListAt 1 TextP w' G ak ks ∧ ListAt 7 MutP w' G ax xs := fun w' ho => ⟨hbx w' ho, h8.only textP_keeps (ob.trans ho) (fun _ _ h => h), h9.only mutP_keeps (ob.trans ho) (fun _ _ h => h)⟩
  have hgood : ∀ i (h : i < xs.length), GoodV xs[i].2.2 ∧ (encV xs[i].2.2).length ≤ 1000000 := fun i h => hE _ (List.getElem_mem _)
  obtain ⟨n, hn⟩ : ∃ n, n = xs.length := ⟨_, rfl⟩
  unfold Fits maxLen at h5 h6
  have b1 : (0 : Int) ≤ (c : Int) := by omega
  have b2 : (c : Int) ≤ 9223372036854775807 := by omega
  have b3 : (0 : Int) ≤ (n : Int) := by omega
  have b4 : (n : Int) ≤ 1000000 := by omega
  rw [← hn] at hl hB hwb ⊢
  have HB := Lib.hid hB; have HWB := Lib.hid hwb; have OB := Lib.hid ob; have HGOOD := Lib.hid hgood; have HL := Lib.hid hl; have HN := Lib.hid hn; have B1 := Lib.hid h1; have B2 := Lib.hid h2; have HK1 := Lib.hid hk1
  clear hB hwb ob hgood hl hn hbx hE h1 h2 h5 h6 h8 h9 hk1 hk2
  have g0 := box4 (HB.out wb (Only.refl _ _)).1
  rw [HWB.out] at g0
  obtain ⟨c0, c1, c2, c3⟩ := g0
  go_enter Try.func55, Try.ntmps55
  go_wp2_with fail
  rw [← HWB.out]
  clear c0 c1 c2 c3
  refine (rUint 1 wb (by decide)).mono ?_
  rintro e w0 ⟨v0, rfl, h0, o0⟩
  have H0 := Lib.hid h0; have O0 := Lib.hid o0; clear h0 o0
  obtain ⟨c0, c1, c2, c3⟩ := box4 (HB.out w0 O0.out).1
  go_wp2_with fail
  refine (rUint c w0 (by have := B1.out; omega)).mono ?_
  rintro e w1a ⟨v1a, rfl, h1a, o1a⟩
  have H1a := Lib.hid h1a; have O1a := Lib.hid (O0.out.trans o1a); have HP1 := Lib.hid (H0.out.still o1a); clear h1a o1a c0 c1 c2 c3
  go_wp2_with ((refine wpList_append8 (o := ⟨some 11, _, _, _, _, _⟩) rfl (.tmp 6) (.tmp 10) (by rfl) wb.heap.size _ _ (encU 1) (encU c) (by rfl) (by rfl) HP1.out H1a.out.bytes (by have := HL.out; (try simp only [List.length_append]); omega) O1a.out.size ?_; intro L1 a1 c1' w1 hL1 h1 g1; have o1 := g1.out.step O1a.out (fun k hk => .inr (HP1.out.ge hk).1); obtain ⟨c0, c1, c2, c3⟩ := box4 (HB.out w1 o1).1; have O1 := Lib.hid o1; have H1 := Lib.hid h1.out; clear o1))
  have hE1 : L1 = encU 1 ++ encU c := by rw [hL1.out]
  have HE1 := Lib.hid hE1; clear hE1
  refine (rTexts ks ak ck G w1 (HB.out w1 O1.out).2.1 HK1.out (by have := HL.out; omega)).mono ?_
  rintro e w2a ⟨v2a, rfl, h2a, o2a⟩
  have H2a := Lib.hid h2a; have O2a := Lib.hid (O1.out.trans o2a); have HP2 := Lib.hid (H1.out.still o2a); clear h2a o2a c0 c1 c2 c3
  go_wp2_with ((refine wpList_append8 (o := ⟨some 16, _, _, _, _, _⟩) rfl (.tmp 12) (.tmp 15) (by rfl) wb.heap.size _ _ (L1) (encQ encT ks) (by rfl) (by rfl) HP2.out H2a.out.bytes (by have := HL.out; rw [HE1.out]; (try simp only [List.length_append]); omega) O2a.out.size ?_; intro L2 a2 c2' w2 hL2 h2 g2; have o2 := g2.out.step O2a.out (fun k hk => .inr (HP2.out.ge hk).1); obtain ⟨c0, c1, c2, c3⟩ := box4 (HB.out w2 o2).1; have O2 := Lib.hid o2; have H2 := Lib.hid h2.out; clear o2))
  have hE2 : L2 = encU 1 ++ encU c ++ encQ encT ks := by rw [hL2.out, HE1.out]
  have HE2 := Lib.hid hE2; clear hE2
  refine (rUint since w2 B2.out).mono ?_
  rintro e w3a ⟨v3a, rfl, h3a, o3a⟩
  have H3a := Lib.hid h3a; have O3a := Lib.hid (O2.out.trans o3a); have HP3 := Lib.hid (H2.out.still o3a); clear h3a o3a c0 c1 c2 c3
  go_wp2_with ((refine wpList_append8 (o := ⟨some 21, _, _, _, _, _⟩) rfl (.tmp 17) (.tmp 20) (by rfl) wb.heap.size _ _ (L2) (encU since) (by rfl) (by rfl) HP3.out H3a.out.bytes (by have := HL.out; rw [HE2.out]; (try simp only [List.length_append]); omega) O3a.out.size ?_; intro L3 a3 c3' w3 hL3 h3 g3; have o3 := g3.out.step O3a.out (fun k hk => .inr (HP3.out.ge hk).1); obtain ⟨c0, c1, c2, c3⟩ := box4 (HB.out w3 o3).1; have O3 := Lib.hid o3; have H3 := Lib.hid h3.out; clear o3))
  have hE3 : L3 = encU 1 ++ encU c ++ encQ encT ks ++ encU since := by rw [hL3.out, HE2.out]
  have HE3 := Lib.hid hE3; clear hE3
  refine (rUint n w3 (by omega)).mono ?_
  rintro e w4a ⟨v4a, rfl, h4a, o4a⟩
  have H4a := Lib.hid h4a; have O4a := Lib.hid (O3.out.trans o4a); have HP4 := Lib.hid (H3.out.still o4a); clear h4a o4a c0 c1 c2 c3
  go_wp2_with ((refine wpList_append8 (o := ⟨some 28, _, _, _, _, _⟩) rfl (.tmp 22) (.tmp 27) (by rfl) wb.heap.size _ _ (L3) (encU n) (by rfl) (by rfl) HP4.out H4a.out.bytes (by have := HL.out; rw [HE3.out]; (try simp only [List.length_append]); omega) O4a.out.size ?_; intro L4 a4 c4' w4 hL4 h4 g4; have o4 := g4.out.step O4a.out (fun k hk => .inr (HP4.out.ge hk).1); obtain ⟨c0, c1, c2, c3⟩ := box4 (HB.out w4 o4).1; have O4 := Lib.hid o4; have H4 := Lib.hid h4.out; clear o4))
  have hE4 : L4 = encU 1 ++ encU c ++ encQ encT ks ++ encU since ++ encU n := by rw [hL4.out, HE3.out]
  have HE4 := Lib.hid hE4; clear hE4
  clear c0 c1 c2 c3
  go_loopw [3, 4] (fun v x wr => ∃ i : Nat, x = .int .i64 (i : Int) ∧ i ≤ n ∧ Hid (Own8 wr wb.heap.size v (encU 1 ++ encU c ++ encQ encT ks ++ encU since ++ encU n ++ encF encM1 (xs.take i))) ∧ Hid (Only (fun _ => False) wb wr)) (fun _ x _ => n - (intOf x).toNat)
  case atStart => exact ⟨0, rfl, by omega, Lib.hid (by have := H4.out; rw [List.take_zero, show encF encM1 [] = [] from rfl, List.append_nil, ← HE4.out]; exact this), O4⟩
  case round =>
    obtain ⟨i, rfl, hi, HW, HO⟩ := hrel
    obtain ⟨c0, c1, c2, c3⟩ := box4 (HB.out wr HO.out).1
    by_cases hlt : i < n
    · have t1 : decide ((i : Int) < (n : Int)) = true := by simpa using hlt
      have hi0 : (0 : Int) ≤ (i : Int) := by omega
      have hi1 : (i : Int) < (n : Int) := by omega
      have hki : i < xs.length := by rw [← HN.out]; exact hlt
      obtain ⟨g, off, cs, ha, hg, hb, hcl, hr, hp⟩ := (HB.out wb (Only.refl _ _)).2.2.get i hki
      subst ha
      obtain ⟨ds, rfl, e1, e2, e3⟩ := hp
      have hle := encF_take_le encM1 xs i hki
      have hst := encF_take encM1 xs i hki
      have hgd := HGOOD.out i hki
      obtain ⟨⟨qq, doc, tt⟩, hx⟩ : ∃ x, x = xs[i] := ⟨_, rfl⟩
      rw [← hx] at e1 e2 e3 hr hle hst hgd
      simp only at e1 e2 e3 hr hgd
      have hle1 : (encF encM1 (xs.take i)).length + ((encU qq).length + ((encT doc).length + (encV tt).length)) ≤ (encF encM1 xs).length := by
        have h := hle
        unfold encM1 encM at h
        simp only [List.length_append] at h
        exact h
      have hdl := encT_le doc
      have hbd := HL.out
      have hrw : ∀ w', Only (fun _ => False) wb w' → w'.rangeAt g (off + i * 7) (.int .u64 qq :: .string ⟨doc.toArray⟩ :: ds) ∧ ValAt w' G tt ds := fun w' ho => ⟨range_only hr hb ho (fun h => h), valAt_only ho (fun _ _ h => h) _ _ e3⟩
      obtain ⟨k', n', s', ak', lk', ck', av', lv', cv', rfl⟩ := valAt_form e3
      obtain ⟨f0, f1, f2, f3, f4, f5, f6⟩ := range7p (hrw wr HO.out).1
      obtain ⟨LL, hLL⟩ : ∃ LL, LL = encU 1 ++ encU c ++ encQ encT ks ++ encU since ++ encU n ++ encF encM1 (xs.take i) := ⟨_, rfl⟩
      have hLl : LL.length + ((encU qq).length + ((encT doc).length + (encV tt).length)) ≤ 100000000 := by rw [hLL]; simp only [List.length_append]; omega
      have how := HW.out
      rw [← hLL] at how
      have hcat : LL ++ encU qq ++ encT doc ++ encV tt = encU 1 ++ encU c ++ encQ encT ks ++ encU since ++ encU n ++ encF encM1 (xs.take (i + 1)) := by
        rw [hLL, hst]; unfold encM1 encM; simp only [List.append_assoc]
      have HOW := Lib.hid how; have HRW := Lib.hid hrw; have HCAT := Lib.hid hcat; have HLl := Lib.hid hLl; have HGD := Lib.hid hgd.1; have E1 := Lib.hid e1
      have hu := rUint qq wr e1
      have hdl2 : doc.length ≤ 1000000000 := by omega
      have HU := Lib.hid hu; have HD2 := Lib.hid hdl2
      clear how hrw hcat hLl hu hdl2 hle hst hgd hx hle1 hdl hbd e1 e2 e3 hr hg hb hcl hki hLL HW
      go_wp2_with fail
      refine HU.out.mono ?_
      rintro e y1 ⟨u1, rfl, p1, o1⟩
      have P1 := Lib.hid p1; have Q1 := Lib.hid (HO.out.trans o1); have OW1 := Lib.hid (HOW.out.still o1); clear p1 o1 f0 f1 f2 f3 f4 f5 f6 c0 c1 c2 c3
      go_wp2_with ((refine wpList_append8 (o := ⟨some 44, _, _, _, _, _⟩) rfl (.tmp 36) (.tmp 43) (by rfl) wb.heap.size _ _ LL (encU qq) (by rfl) (by rfl) OW1.out P1.out.bytes (by have := HLl.out; omega) Q1.out.size ?_; intro M1 b1 d1 x1 hM1 h1 g1; have ox1 := g1.out.step Q1.out (fun k hk => .inr (OW1.out.ge hk).1); obtain ⟨f0, f1, f2, f3, f4, f5, f6⟩ := range7p (HRW.out x1 ox1).1; obtain ⟨c0, c1, c2, c3⟩ := box4 (HB.out x1 ox1).1; have OX1 := Lib.hid ox1; have OWX1 := Lib.hid h1.out; clear ox1))
      refine (rText doc x1 HD2.out).mono ?_
      rintro e y2 ⟨u2, rfl, p2, o2⟩
      have P2 := Lib.hid p2; have Q2 := Lib.hid (OX1.out.trans o2); have OW2 := Lib.hid (OWX1.out.still o2); clear p2 o2 f0 f1 f2 f3 f4 f5 f6 c0 c1 c2 c3
      go_wp2_with ((refine wpList_append8 (o := ⟨some 53, _, _, _, _, _⟩) rfl (.tmp 45) (.tmp 52) (by rfl) wb.heap.size _ _ M1 (encT doc) (by rfl) (by rfl) OW2.out P2.out.bytes (by have := HLl.out; rw [hM1.out]; simp only [List.length_append]; omega) Q2.out.size ?_; intro M2 b2 d2 x2 hM2 h2 g2; have ox2 := g2.out.step Q2.out (fun k hk => .inr (OW2.out.ge hk).1); obtain ⟨f0, f1, f2, f3, f4, f5, f6⟩ := range7p (HRW.out x2 ox2).1; obtain ⟨c0, c1, c2, c3⟩ := box4 (HB.out x2 ox2).1; have OX2 := Lib.hid ox2; have OWX2 := Lib.hid h2.out; clear ox2))
      refine (rValue _ tt (Nat.le_refl _) G x2 _ (HRW.out x2 OX2.out).2 HGD.out (by have := HLl.out; omega)).mono ?_
      rintro e y3 ⟨u3, rfl, p3, o3⟩
      have P3 := Lib.hid p3; have Q3 := Lib.hid (OX2.out.trans o3); have OW3 := Lib.hid (OWX2.out.still o3); clear p3 o3 f0 f1 f2 f3 f4 f5 f6 c0 c1 c2 c3
      go_wp2_with ((refine wpList_append8 (o := ⟨some 62, _, _, _, _, _⟩) rfl (.tmp 54) (.tmp 61) (by rfl) wb.heap.size _ _ M2 (encV tt) (by rfl) (by rfl) OW3.out P3.out.bytes (by have := HLl.out; rw [hM2.out, hM1.out]; simp only [List.length_append]; omega) Q3.out.size ?_; intro M3 b3 d3 x3 hM3 h3 g3; have ox3 := g3.out.step Q3.out (fun k hk => .inr (OW3.out.ge hk).1); have OX3 := Lib.hid ox3; have OWX3 := Lib.hid h3.out; clear ox3))
      have h9 := OWX3.out
      have e9 : M3 = encU 1 ++ encU c ++ encQ encT ks ++ encU since ++ encU n ++ encF encM1 (xs.take (i + 1)) := by rw [hM3.out, hM2.out, hM1.out]; exact HCAT.out
      rw [e9] at h9
      rw [e9]
      have H9 := Lib.hid h9; clear h9 e9
      go_roundw
      case rel => exact ⟨i + 1, by simp [go_sem], by omega, H9, OX3⟩
      case measure => simp [intOf]; omega
    · have t1 : decide ((i : Int) < (n : Int)) = false := by simp; omega
      obtain rfl : n = i := by omega
      have h8 := HW.out
      rw [HN.out, List.take_length, ← HN.out] at h8
      have H8 := Lib.hid (h8.mono OB.out.size); clear h8
      go_wp2_with fail
      go_ret
      exact ⟨_, rfl, H8.out, OB.out.trans HO.out⟩
end Go.Proofs.Ytoojnpafcdaflaa
namespace Go.Proofs.Ytoojnpafcdaflaa
open Go Go.RowKit
set_option linter.unusedVariables false
set_option linter.unusedSimpArgs false
set_option maxRecDepth 100000

theorem awk17a (w : World) : Calls Try.prog 42 #[] w fun e w' => e = .returned (.bool true) ∧ Only (fun _ => False) w w' :=
  (awake_true w).mono fun e w' ⟨h1, h2⟩ => ⟨h1, Only.ofBelow h2 _⟩
theorem sealed_code' {l : List UInt8} {c : Int} (h : Sealed l) (hc : OpenCode l c) : c = 0 := hc.one (.inr (.inr ⟨h, rfl⟩))
theorem texts_read {ks : List (List UInt8)} {long : Nat} (h : ∀ s ∈ ks, s.length < 18446744073709551616) : ∀ s ∈ ks, (∀ r, decT long (encT s ++ r) = some (s, r)) ∨ (∀ r, decT long (encT s ++ r) = none) := fun s hs => by
  rcases Nat.lt_or_ge long s.length with h1 | h1
  · exact .inr fun r => decT_overA s r (h s hs) h1
  · exact .inl fun r => decT_encA s r (h s hs) h1
theorem texts_bad {ks : List (List UInt8)} {long most : Nat} (r : List UInt8) (h : ∀ s ∈ ks, s.length < 18446744073709551616) (hl : ks.length < 18446744073709551616) (hn : ¬ (ks.length ≤ most ∧ ∀ s ∈ ks, okT long s)) : decQ most (decT long) (encQ encT ks ++ r) = none := by
  by_cases h1 : ks.length ≤ most
  · have h2 : ¬ ∀ s ∈ ks, okT long s := fun h3 => hn ⟨h1, h3⟩
    have h3 : ∃ s ∈ ks, ¬ okT long s := Classical.byContradiction fun h4 => h2 fun s hs => Classical.byContradiction fun h5 => h4 ⟨s, hs, h5⟩
    obtain ⟨s, hs, h4⟩ := h3
    refine decQ_bad ks r hl (texts_read h) ⟨s, hs, fun r => decT_overA s r (h s hs) ?_⟩
    unfold okT at h4; omega
  · exact decQ_over ks r (by omega) hl
/-- What does not fit is not read. -/
theorem ask_none {a : AskV} (hc : a.c < 18446744073709551616) (hkl : a.ks.length < 18446744073709551616) (hkb : ∀ s ∈ a.ks, s.length < 18446744073709551616) (hs : a.since < 18446744073709551616) (hml : a.ms.length < 18446744073709551616)
    (hm : ∀ x ∈ a.ms, x.1 < 18446744073709551616 ∧ x.2.1.length < 18446744073709551616 ∧ formV x.2.2 0 = true ∧ SmallV x.2.2) (hn : ¬ okAsk a) : ∀ a', ¬ AskOf (encAsk a) a' := by
  rintro a' ⟨r, h0, h⟩
  unfold encAsk at h0
  rw [decU_encA _ (by decide) (by decide)] at h0
  injection h0 with h0; injection h0 with _ h0
  subst h0
  unfold decAskB at h
  by_cases g1 : a.c ≤ 4
  rotate_left
  · rw [decU_overA _ hc (by omega)] at h; cases h
  rw [decU_encA _ hc g1] at h
  simp only at h
  by_cases g2 : a.ks.length ≤ 20 ∧ ∀ s ∈ a.ks, okT 32 s
  rotate_left
  · rw [texts_bad _ hkb hkl g2] at h; cases h
  rw [decQ_enc a.ks _ g2.1 hkl (fun x hx => okT64 (by decide) (g2.2 x hx))] at h
  simp only at h
  by_cases g3 : a.since ≤ 1152921504606846976
  rotate_left
  · rw [decU_overA _ hs (by omega)] at h; cases h
  rw [decU_encA _ hs g3] at h
  simp only at h
  by_cases g4 : a.ms.length ≤ 4
  rotate_left
  · have := decQ_over (dec := decM) (enc := encM1) (most := 4) a.ms [] (by omega) hml
    rw [List.append_nil] at this
    rw [this] at h; cases h
  by_cases g5 : ∀ x ∈ a.ms, okM x
  · exact hn ⟨g1, g2.1, g2.2, g3, g4, g5⟩
  · have h3 : ∃ x ∈ a.ms, ¬ okM x := Classical.byContradiction fun h4 => g5 fun s hs => Classical.byContradiction fun h5 => h4 ⟨s, hs, h5⟩
    obtain ⟨x, hx, h4⟩ := h3
    have hbad : ∀ y ∈ a.ms, ¬ okM y → ∀ r, decM (encM1 y ++ r) = none := fun y hy hk r => by
      obtain ⟨k1, k2, k3, k4⟩ := hm y hy
      refine decM_over r k1 k2 ?_
      rcases Nat.lt_or_ge 1152921504606846976 y.1 with h | h
      · exact .inl h
      · rcases Nat.lt_or_ge 2000 y.2.1.length with h' | h'
        · exact .inr h'
        · exact absurd ⟨h, h', k3, k4⟩ hk
    have := decQ_bad (dec := decM) (enc := encM1) (most := 4) a.ms [] hml (fun y hy => by
      by_cases hk : okM y
      · exact .inl (decM_back hk)
      · exact .inr (hbad y hy hk)) ⟨x, hx, hbad x hx h4⟩
    rw [List.append_nil] at this
    rw [this] at h; cases h
/-- Do the first k mutations fit? -/
def mutsB (ms : List (Nat × List UInt8 × VT)) : Nat → Bool
  | 0 => true
  | k + 1 => mutsB ms k && ((ms[k]?).all fun x => decide (x.1 ≤ 1152921504606846976) && decide (x.2.1.length ≤ 2000))
theorem mutsB_iff (ms : List (Nat × List UInt8 × VT)) : ∀ k, k ≤ ms.length → (mutsB ms k = true ↔ ∀ i (h : i < ms.length), i < k → ms[i].1 ≤ 1152921504606846976 ∧ ms[i].2.1.length ≤ 2000)
  | 0, _ => by simp [mutsB]
  | k + 1, hk => by
    have ih := mutsB_iff ms k (by omega)
    have hk' : k < ms.length := by omega
    simp only [mutsB, Bool.and_eq_true, ih, List.getElem?_eq_getElem hk', Option.all_some, decide_eq_true_eq]
    constructor
    · rintro ⟨h1, h2⟩ i hi hik
      by_cases e : i = k
      · subst e; exact h2
      · exact h1 i hi (by omega)
    · intro h
      exact ⟨fun i hi hik => h i hi (by omega), h k hk' (by omega)⟩
theorem boxA1 (w : World) (e0 e1 e2 e3 : Value) : ∃ wb, wb = w.alloc (.cells #[e0, e1, e2, e3] 89) ∧ Only (fun _ => False) w wb ∧ ∀ (S : Nat → Prop) w', Only S wb w' → ¬ S w.heap.size → w'.heap[w.heap.size]? = some (.cells #[e0, e1, e2, e3] 89 (0, 0)) := by
  refine ⟨_, rfl, (Only.refl _ w).alloc _, fun S w' ho hS => ?_⟩
  have h := heap_new w (.cells #[e0, e1, e2, e3] 89)
  rw [ho.block _ (Array.getElem?_eq_some_iff.1 h).1 hS]; exact h
theorem askAt_one {w : World} {G : Nat → Prop} {a : AskV} {cs : List Value} (h : AskAt w G a cs) : ∃ d0 d1 d2 d3, cs = [d0, d1, d2, d3] ∧ ∀ u ∈ [d0, d1, d2, d3], u.oneCell' = true := by
  obtain ⟨ak, ck, al, cl, rfl, _⟩ := h
  exact ⟨_, _, _, _, rfl, (by intro v hv; simp only [List.mem_cons, List.not_mem_nil, or_false] at hv; rcases hv with rfl | rfl | rfl | rfl <;> rfl)⟩
theorem encF_sum {α : Type} (enc : α → List UInt8) (m : Nat) : ∀ (xs : List α), (∀ x ∈ xs, (enc x).length ≤ m) → (encF enc xs).length ≤ xs.length * m
  | [], _ => by simp [encF]
  | x :: xs, h => by
    have h1 := h x List.mem_cons_self
    have h2 := encF_sum enc m xs (fun y hy => h y (List.mem_cons_of_mem _ hy))
    simp only [encF, List.length_append, List.length_cons]
    rw [Nat.add_mul, Nat.one_mul]
    omega
theorem askAt_keeps {w w' : World} {G : Nat → Prop} {a : AskV} {cs : List Value} (h : AskAt w G a cs) (ho : Only (fun _ => False) w w') : AskAt w' G a cs := h.only ho (fun _ _ h => h)
set_option maxHeartbeats 32000000 in
theorem asks0 (c : Int) (ks : List (List UInt8)) (since : Nat) (ms : List (Nat × List UInt8 × VT)) (ak : Option Addr) (ck : Nat) (al : Option Addr) (cl : Nat) (w : World) (hc1 : -9223372036854775808 ≤ c) (hc2 : c ≤ 9223372036854775807) (hs : since < 18446744073709551616) (hkf : Fits ks.length ck) (hmf : Fits ms.length cl)
    (hk : ListAt 1 TextP w (fun q => q < w.heap.size) ak ks) (hm : ListAt 7 MutP w (fun q => q < w.heap.size) al ms) (hkb : ∀ s ∈ ks, s.length ≤ 1048576) (hmb : ∀ x ∈ ms, SmallV x.2.2 ∧ x.2.1.length ≤ 1048576) :
    Calls Try.prog 14 #[.agg #[.int .i64 c, .slice ak ks.length ck, .int .u64 since, .slice al ms.length cl]] w fun e w' => e = .returned (.bool true) ∧ Below w.heap.size w w' := by
  obtain ⟨wb, hwb, ob, hbx⟩ := boxA1 w (.int .i64 c) (.slice ak ks.length ck) (.int .u64 since) (.slice al ms.length cl)
  have hB : ∀ w', Only (fun _ => False) wb w' → w'.heap[w.heap.size]? = some (.cells #[.int .i64 c, .slice ak ks.length ck, .int .u64 since, .slice al ms.length cl] 89 (0, 0)) ∧ ListAt 1 TextP w' (fun q => q < w.heap.size) ak ks ∧ ListAt 7 MutP w' (fun q => q < w.heap.size) al ms := fun w' ho =>
    ⟨hbx _ w' ho (fun h => h), hk.only textP_keeps (ob.trans ho) (fun _ _ h => h), hm.only mutP_keeps (ob.trans ho) (fun _ _ h => h)⟩
  obtain ⟨n, hn⟩ : ∃ n, n = ms.length := ⟨_, rfl⟩
  obtain ⟨b1, hb1⟩ : ∃ b, b = decide (c < 0) := ⟨_, rfl⟩
  obtain ⟨b2, hb2⟩ : ∃ b, b = decide (20 < n) := ⟨_, rfl⟩
  obtain ⟨b3, hb3⟩ : ∃ b, b = decide (40 < ks.length) := ⟨_, rfl⟩
  have t1 : decide (c < 0) = b1 := hb1.symm
  have t2 : decide ((20 : Int) < (n : Int)) = b2 := by rw [hb2]; exact decide_eq_decide.2 (by omega)
  have t3 : decide ((40 : Int) < (ks.length : Int)) = b3 := by rw [hb3]; exact decide_eq_decide.2 (by omega)
  have t4 : decide (20 < n) = b2 := hb2.symm
  have t5 : decide (40 < ks.length) = b3 := hb3.symm
  unfold Fits maxLen at hkf hmf
  have i1 : (ks.length : Int) ≤ 9223372036854775807 := by omega
  have i2 : (n : Int) ≤ 9223372036854775807 := by omega
  rw [← hn] at hB hwb ⊢
  have g0 := box4 (hB wb (Only.refl _ _)).1
  rw [hwb] at g0
  have HB := Lib.hid hB; have HWB := Lib.hid hwb; have OB := Lib.hid ob; have HN := Lib.hid hn; have HB1 := Lib.hid hb1; have HB2 := Lib.hid hb2; have HB3 := Lib.hid hb3; have HKF := Lib.hid hkf; have HMF := Lib.hid hmf; have HKB := Lib.hid hkb; have HMB := Lib.hid hmb; have HS := Lib.hid hs; have HC2 := Lib.hid hc2
  clear hB hwb ob hn hb1 hb2 hb3 hkf hmf hkb hmb hbx hk hm hs g0
  go_enter Try.func14, Try.ntmps14
  go_wp2_with fail
  rw [← HWB.out]
  refine (awk17a _).mono ?_
  rintro e w1 ⟨rfl, o1⟩
  have O1 := Lib.hid o1; clear o1
  obtain ⟨x0, x1, x2, x3⟩ := box4 (HB.out w1 O1.out).1
  cases b1 with
  | true =>
    go_wp2_with fail
    refine (awk17a _).mono ?_
    rintro e w9 ⟨rfl, o9⟩
    have O9 := Lib.hid o9; clear o9
    go_wp2_with fail
    go_ret
    exact ⟨rfl, ((OB.out.trans O1.out).trans O9.out).still⟩
  | false =>
  cases b2 with
  | true =>
    go_wp2_with fail
    refine (awk17a _).mono ?_
    rintro e w9 ⟨rfl, o9⟩
    have O9 := Lib.hid o9; clear o9
    go_wp2_with fail
    go_ret
    exact ⟨rfl, ((OB.out.trans O1.out).trans O9.out).still⟩
  | false =>
  cases b3 with
  | true =>
    go_wp2_with fail
    refine (awk17a _).mono ?_
    rintro e w9 ⟨rfl, o9⟩
    have O9 := Lib.hid o9; clear o9
    go_wp2_with fail
    go_ret
    exact ⟨rfl, ((OB.out.trans O1.out).trans O9.out).still⟩
  | false =>
  have hc0 : 0 ≤ c := by have := HB1.out; simp at this; omega
  obtain ⟨cn, rfl⟩ := Int.eq_ofNat_of_zero_le hc0
  have hn20 : n ≤ 20 := by have := HB2.out; simp at this; omega
  have hk40 : ks.length ≤ 40 := by have := HB3.out; simp at this; omega
  obtain ⟨f1, hf1⟩ : ∃ b, b = decide (cn < 5) := ⟨_, rfl⟩
  obtain ⟨f2, hf2⟩ : ∃ b, b = shortB ks 20 32 := ⟨_, rfl⟩
  obtain ⟨f3, hf3⟩ : ∃ b, b = decide (since ≤ 1152921504606846976) := ⟨_, rfl⟩
  obtain ⟨f4, hf4⟩ : ∃ b, b = decide (n ≤ 4) := ⟨_, rfl⟩
  have s1 : decide ((cn : Int) < 5) = f1 := by rw [hf1]; exact decide_eq_decide.2 (by omega)
  have s1' : decide (cn < 5) = f1 := hf1.symm
  have s3 : decide ((since : Int) ≤ 1152921504606846976) = f3 := by rw [hf3]; exact decide_eq_decide.2 (by omega)
  have s3' : decide (since ≤ 1152921504606846976) = f3 := hf3.symm
  have s4 : decide ((n : Int) ≤ 4) = f4 := by rw [hf4]; exact decide_eq_decide.2 (by omega)
  have s4' : decide (n ≤ 4) = f4 := hf4.symm
  have hsh := fun w' (ho : Only (fun _ => False) wb w') => short_any ks ak ck 20 32 _ w' (HB.out w' ho).2.1 (by omega) (by decide) (by decide) (fun s hs => by have := HKB.out s hs; omega)
  rw [← hf2] at hsh
  -- fits, ahead of the loop
  obtain ⟨fit, hfit⟩ : ∃ b, b = (f1 && f2 && f3 && f4) := ⟨_, rfl⟩
  have HF1 := Lib.hid hf1; have HF2 := Lib.hid hf2; have HF3 := Lib.hid hf3; have HF4 := Lib.hid hf4; have HSH := Lib.hid hsh; have HFIT := Lib.hid hfit; have HN20 := Lib.hid hn20; have HK40 := Lib.hid hk40
  clear hf1 hf2 hf3 hf4 hsh hfit hn20 hk40 hc0
  go_upto_region 3 with (fail)
  go_cut [3] from 29 (fun v w' => v = .bool fit ∧ Hid (Only (fun _ => False) wb w'))
  case first =>
    cases f1 with
    | false =>
      go_wp2_with fail
      go_meet
      case rel => exact ⟨by rw [HFIT.out]; rfl, O1⟩
    | true =>
      go_wp2_with fail
      refine (HSH.out _ O1.out).mono ?_
      rintro e w2 ⟨rfl, rfl⟩
      cases f2 <;> cases f3 <;> cases f4
      all_goals
        go_wp2_with fail
        go_meet
        case rel => exact ⟨by rw [HFIT.out]; rfl, O1⟩
  case rest =>
  obtain ⟨rfl, HOC⟩ := hcut
  clear x0 x1 x2 x3 s1 s1' s3 s3' s4 s4' t1 t2 t3 t4 t5 HSH
  have hpow : ∀ i (h : i < ms.length), ∃ q doc tt, ms[i] = (q, doc, tt) ∧ SmallV tt := fun i h => ⟨_, _, _, rfl, (HMB.out _ (List.getElem_mem h)).1⟩
  clear hpow
  go_wp2_with fail
  go_loopw [3, 4] (fun v x wr => ∃ (i : Nat) (fb : Bool), v = .bool fb ∧ x = .int .i64 (i : Int) ∧ i ≤ n ∧ Hid (fb = (fit && mutsB ms i)) ∧ Hid (∀ j (h : j < ms.length), j < i → greatV ms[j].2.2 = false ∧ formV ms[j].2.2 0 = true) ∧ Hid (Only (fun _ => False) wb wr)) (fun _ x _ => n - (intOf x).toNat)
  case atStart => exact ⟨0, fit, rfl, rfl, Nat.zero_le _, Lib.hid (by simp [mutsB]), Lib.hid (fun j h hj => by omega), HOC⟩
  case round =>
    obtain ⟨i, fb, rfl, rfl, hi, HFB, HAL, HO⟩ := hrel
    obtain ⟨x0, x1, x2, x3⟩ := box4 (HB.out wr HO.out).1
    by_cases hlt : i < n
    · have t1 : decide ((i : Int) < (n : Int)) = true := by simpa using hlt
      have hi0 : (0 : Int) ≤ (i : Int) := by omega
      have hi1 : (i : Int) < (n : Int) := by omega
      have hki : i < ms.length := by rw [← HN.out]; exact hlt
      obtain ⟨g, off, cs, ha, hg, hb, hcl, hr, hp⟩ := (HB.out wr HO.out).2.2.get i hki
      subst ha
      obtain ⟨ds, rfl, e1, e2, e3⟩ := hp
      have hnext : ∀ a b : Bool, a = decide (ms[i].1 ≤ 1152921504606846976) → b = decide (ms[i].2.1.length ≤ 2000) → (fb && (a && b)) = (fit && mutsB ms (i + 1)) := fun a b h1 h2 => by
        simp only [mutsB, List.getElem?_eq_getElem hki, Option.all_some]
        rw [← h1, ← h2, HFB.out, Bool.and_assoc]
      have hall : greatV ms[i].2.2 = false → formV ms[i].2.2 0 = true → ∀ j (h : j < ms.length), j < i + 1 → greatV ms[j].2.2 = false ∧ formV ms[j].2.2 0 = true := fun h1 h2 j hj hji => by
        by_cases e : j = i
        · subst e; exact ⟨h1, h2⟩
        · exact HAL.out j hj (by omega)
      obtain ⟨⟨qq, doc, tt⟩, hx⟩ : ∃ x, x = ms[i] := ⟨_, rfl⟩
      rw [← hx] at e1 e2 e3 hr hnext hall
      simp only at e1 e2 e3 hr hnext hall
      have hrw : ∀ w', Only (fun _ => False) wr w' → w'.rangeAt g (off + i * 7) (.int .u64 qq :: .string ⟨doc.toArray⟩ :: ds) ∧ ValAt w' (fun q => q < w.heap.size) tt ds := fun w' ho => ⟨range_only hr hb ho (fun h => h), valAt_only ho (fun _ _ h => h) _ _ e3⟩
      obtain ⟨k', n', s', ak', lk', ck', av', lv', cv', rfl⟩ := valAt_form e3
      obtain ⟨y0, y1, y2, y3, y4, y5, y6⟩ := range7p (hrw wr (Only.refl _ _)).1
      obtain ⟨gm, hgm⟩ : ∃ gm, gm = greatV tt := ⟨_, rfl⟩
      obtain ⟨fm, hfm⟩ : ∃ fm, fm = formV tt 0 := ⟨_, rfl⟩
      obtain ⟨s1, hs1⟩ : ∃ b, b = decide (qq ≤ 1152921504606846976) := ⟨_, rfl⟩
      obtain ⟨s2, hs2⟩ : ∃ b, b = decide (doc.length ≤ 2000) := ⟨_, rfl⟩
      have z1 : decide ((qq : Int) ≤ 1152921504606846976) = s1 := by rw [hs1]; exact decide_eq_decide.2 (by omega)
      have z1' : decide (qq ≤ 1152921504606846976) = s1 := hs1.symm
      have z2 : decide ((doc.length : Int) ≤ 2000) = s2 := by rw [hs2]; exact decide_eq_decide.2 (by omega)
      have z2' : decide (doc.length ≤ 2000) = s2 := hs2.symm
      have hsz : (⟨doc.toArray⟩ : ByteArray).size = doc.length := by simp [ByteArray.size]
      have hd1 : (doc.length : Int) ≤ 9223372036854775807 := by omega
      have hgr := rGreat tt _ wr _ (hrw wr (Only.refl _ _)).2
      have hfo : ∀ w', Only (fun _ => False) wr w' → Calls Try.prog 24 #[.agg #[.int .u8 k', .int .i64 n', .string ⟨s'.toArray⟩, .slice ak' lk' ck', .slice av' lv' cv'], .int .i64 0] w' _ := fun w' ho => rForm _ tt (Nat.le_refl _) _ w' _ 0 (hrw w' ho).2 (by omega)
      rw [← hgm] at hgr
      rw [← hfm] at hfo
      have hnx := hnext s1 s2 hs1 hs2
      rw [← hgm, ← hfm] at hall
      have HGR := Lib.hid hgr; have HFO := Lib.hid hfo; have HRW := Lib.hid hrw; have HNX := Lib.hid hnx; have HALL := Lib.hid hall
      clear hgr hfo hrw hnx hall hnext hgm hfm hs1 hs2 hx e1 e2 e3 hr hg hb hcl hki
      go_wp2_with fail
      refine HGR.out.mono ?_
      rintro e w5 ⟨rfl, o5⟩
      have O5 := Lib.hid (HO.out.trans o5)
      clear x0 x1 x2 x3 y0 y1 y2 y3 y4 y5 y6
      cases gm with
      | true =>
        clear o5
        go_wp2_with fail
        go_ret
        exact ⟨rfl, (OB.out.trans O5.out).still⟩
      | false =>
      obtain ⟨x0, x1, x2, x3⟩ := box4 (HB.out w5 O5.out).1
      obtain ⟨y0, y1, y2, y3, y4, y5, y6⟩ := range7p (HRW.out w5 o5).1
      have HFO5 := Lib.hid (HFO.out w5 o5)
      have O5' := Lib.hid o5; clear o5
      go_wp2_with fail
      refine HFO5.out.mono ?_
      rintro e w6 ⟨rfl, o6⟩
      have O6 := Lib.hid (O5.out.trans o6)
      clear x0 x1 x2 x3 y0 y1 y2 y3 y4 y5 y6
      cases fm with
      | false =>
        clear o6
        go_wp2_with fail
        go_ret
        exact ⟨rfl, (OB.out.trans O6.out).still⟩
      | true =>
      obtain ⟨x0, x1, x2, x3⟩ := box4 (HB.out w6 O6.out).1
      obtain ⟨y0, y1, y2, y3, y4, y5, y6⟩ := range7p (HRW.out w6 (O5'.out.trans o6)).1
      have HALL2 : Hid (∀ j (h : j < ms.length), j < i + 1 → greatV ms[j].2.2 = false ∧ formV ms[j].2.2 0 = true) := Lib.hid (HALL.out (by first | rfl | trivial) (by first | rfl | trivial))
      clear o6 HFO HFO5 HGR HALL
      cases fb with
      | false =>
        go_wp2_with fail
        go_roundw
        case rel => exact ⟨i + 1, false, by simp [go_sem], by simp [go_sem], by omega, Lib.hid (by rw [← HNX.out]; rfl), HALL2, O6⟩
        case measure => simp [intOf]; omega
      | true =>
        cases s1 with
        | false =>
          go_wp2_with fail
          go_roundw
          case rel => exact ⟨i + 1, false, by simp [go_sem], by simp [go_sem], by omega, Lib.hid (by rw [← HNX.out]; rfl), HALL2, O6⟩
          case measure => simp [intOf]; omega
        | true =>
          cases s2 with
          | false =>
            go_wp2_with fail
            go_roundw
            case rel => exact ⟨i + 1, false, by simp [go_sem], by simp [go_sem], by omega, Lib.hid (by rw [← HNX.out]; rfl), HALL2, O6⟩
            case measure => simp [intOf]; omega
          | true =>
            go_wp2_with fail
            go_roundw
            case rel => exact ⟨i + 1, true, by simp [go_sem], by simp [go_sem], by omega, Lib.hid (by rw [← HNX.out]; rfl), HALL2, O6⟩
            case measure => simp [intOf]; omega
    · have t1 : decide ((i : Int) < (n : Int)) = false := by simp; omega
      obtain rfl : n = i := by omega
      have hal : ∀ x ∈ ms, greatV x.2.2 = false ∧ formV x.2.2 0 = true := fun x hx => by
        obtain ⟨j, hj, rfl⟩ := List.getElem_of_mem hx
        exact HAL.out j hj (by have := HN.out; omega)
      have hvl : ∀ x ∈ ms, GoodV x.2.2 ∧ (encV x.2.2).length ≤ 900000 := fun x hx => ⟨form_good _ 0 (hal x hx).2, form_len (HMB.out x hx).1 (hal x hx).1 (hal x hx).2⟩
      have hks := HK40.out; have hns := HN20.out; have hnm := HN.out
      have hq64 : ∀ x ∈ ms, x.1 < 18446744073709551616 := fun x hx => by
        obtain ⟨j, hj, rfl⟩ := List.getElem_of_mem hx
        obtain ⟨_, _, _, _, _, _, _, _, ds, _, e1, _⟩ := (HB.out wr HO.out).2.2.get j hj
        exact e1
      have hbk := encF_sum encT 1048586 ks (fun s hs => by have := HKB.out s hs; have := encU_len10 (n := s.length) (by omega); unfold encT; rw [List.length_append]; omega)
      have hbm := encF_sum encM1 1948606 ms (fun x hx => by
        have h1 := (hvl x hx).2; have h2 := (HMB.out x hx).2
        have h3 := encU_len10 (n := x.1) (hq64 x hx); have h4 := encU_len10 (n := x.2.1.length) (by omega)
        unfold encM1 encM encT
        simp only [List.length_append]
        omega)
      have hbk2 : ks.length * 1048586 ≤ 40 * 1048586 := Nat.mul_le_mul_right _ hks
      have hbm2 : ms.length * 1948606 ≤ 20 * 1948606 := Nat.mul_le_mul_right _ (by omega)
      have hcb := HC2.out
      have hel : (encAsk ⟨cn, ks, since, ms⟩).length ≤ 90000000 := by
        have e1 := encU_len10 (n := 1) (by decide); have e2 := encU_len10 (n := cn) (by omega); have e3 := encU_len10 (n := since) HS.out; have e4 := encU_len10 (n := ks.length) (by omega); have e5 := encU_len10 (n := ms.length) (by omega)
        unfold encAsk encQ
        simp only [List.length_append]
        omega
      have hA : ∀ w', Only (fun _ => False) wb w' → AskAt w' (fun q => q < w.heap.size) ⟨cn, ks, since, ms⟩ [.int .i64 cn, .slice ak ks.length ck, .int .u64 since, .slice al n cl] := fun w' ho => ⟨ak, ck, al, cl, by rw [HN.out], (by show cn ≤ _; omega), HS.out, (by unfold Fits maxLen; exact HKF.out), (by unfold Fits maxLen; exact HMF.out), (HB.out w' ho).2.1, (HB.out w' ho).2.2⟩
      have hgv : ∀ x ∈ ms, GoodV x.2.2 ∧ (encV x.2.2).length ≤ 1000000 := fun x hx => ⟨(hvl x hx).1, by have := (hvl x hx).2; omega⟩
      have henc := wEncAsk ⟨cn, ks, since, ms⟩ _ wr _ (hA wr HO.out) (fun q hq => Nat.lt_of_lt_of_le hq (Nat.le_trans OB.out.size HO.out.size)) hgv ⟨(by show ks.length ≤ _; omega), (by show ms.length ≤ _; omega)⟩ (by omega)
      have hra := fun w' (G : Nat → Prop) (cs : List Value) (ha : AskAt w' G ⟨cn, ks, since, ms⟩ cs) => rAsk ⟨cn, ks, since, ms⟩ G w' cs ha hgv ⟨(by show ks.length ≤ _; omega), (by show ms.length ≤ _; omega)⟩ (by omega)
      have hok : fb = true ↔ okAsk ⟨cn, ks, since, ms⟩ := by
        rw [HFB.out, HFIT.out, HF1.out, HF2.out, HF3.out, HF4.out]
        simp only [Bool.and_eq_true, decide_eq_true_eq, shortB_iff, mutsB_iff ms n (by omega)]
        unfold okAsk okT
        constructor
        · rintro ⟨⟨⟨⟨h1, h2, h3⟩, h4⟩, h5⟩, h6⟩
          refine ⟨by show cn ≤ 4; omega, h3, h2, h4, (by show ms.length ≤ 4; omega), fun x hx => ?_⟩
          obtain ⟨j, hj, rfl⟩ := List.getElem_of_mem hx
          have h7 := h6 j hj (by have hj2 : j < ms.length := hj; omega)
          exact ⟨h7.1, h7.2, (hal _ hx).2, (HMB.out _ hx).1⟩
        · rintro ⟨h1, h2, h3, h4, h5, h6⟩
          refine ⟨⟨⟨⟨(by have h1' : cn ≤ 4 := h1; omega), h3, h2⟩, h4⟩, (by have h5' : ms.length ≤ 4 := h5; omega)⟩, fun j hj _ => ?_⟩
          have h7 := h6 ms[j] (List.getElem_mem _)
          exact ⟨h7.1, h7.2.1⟩
      have hyes : fb = true → AskOf (encAsk ⟨cn, ks, since, ms⟩) ⟨cn, ks, since, ms⟩ := fun h => ask_back (hok.1 h)
      have hno : fb = false → ∀ a', ¬ AskOf (encAsk ⟨cn, ks, since, ms⟩) a' := fun h => ask_none (a := ⟨cn, ks, since, ms⟩) (by show cn < _; omega) (by show ks.length < _; omega) (fun s hs => by have := HKB.out s hs; omega) HS.out (by show ms.length < _; omega) (fun x hx => ⟨hq64 x hx, by have := (HMB.out x hx).2; omega, (hal x hx).2, (HMB.out x hx).1⟩) (fun hk => by have := hok.2 hk; rw [h] at this; cases this)
      obtain ⟨E0, hE0⟩ : ∃ E0, E0 = encAsk ⟨cn, ks, since, ms⟩ := ⟨_, rfl⟩
      obtain ⟨L0, hL0⟩ : ∃ L0, L0 = sealed E0 := ⟨_, rfl⟩
      rw [← hE0] at hel henc hra hyes hno
      rw [← hL0] at henc
      have hL0l : L0.length ≤ 90000004 := by rw [hL0, sealed_len]; omega
      have HEL := Lib.hid hel; have HA := Lib.hid hA; have HENC := Lib.hid henc; have HRA0 := Lib.hid hra; have HYES := Lib.hid hyes; have HNO := Lib.hid hno; have HL0 := Lib.hid hL0; have HLL := Lib.hid hL0l
      clear hks hns hnm hq64 hbk hbm hbk2 hbm2 hcb hel hA hgv henc hra hok hyes hno hE0 hL0 hL0l hal hvl
      have hra2 : ∀ w', Only (fun _ => False) wb w' → Calls Try.prog 55 #[.agg #[.int .i64 cn, .slice ak ks.length ck, .int .u64 since, .slice al n cl]] w' (Makes w' E0) := fun w' ho => HRA0.out w' _ _ (HA.out w' ho)
      have HRA := Lib.hid hra2; clear hra2
      go_wp2_with fail
      refine HENC.out.mono ?_
      rintro e w5 ⟨v5, rfl, h5, o5⟩
      obtain ⟨a5, c5, rfl⟩ := h5.form
      have HB5 := Lib.hid h5.bytes; have O5 := Lib.hid (HO.out.trans o5)
      have hda := dcda_any _ L0 w5 HB5.out (by have := HLL.out; omega)
      have HDA := Lib.hid hda; clear hda h5 o5 x0 x1 x2 x3
      go_wp2_with fail
      refine HDA.out.mono ?_
      rintro e w6 ⟨o6, hcase⟩
      have hz6 := heap_new w6 (.cells #[.int .i64 0, .slice none 0 0, .int .u64 0, .slice none 0 0] 89)
      have oz6 := (Only.refl (fun _ => False) w6).alloc (.cells #[.int .i64 0, .slice none 0 0, .int .u64 0, .slice none 0 0] 89)
      have HZ6 := Lib.hid hz6; have OZ6 := Lib.hid oz6; clear hz6 oz6
      cases fb with
      | false =>
        have hno := HNO.out (by first | rfl | trivial)
        have hce : e = .returned (.tuple #[.agg #[.int .i64 0, .slice none 0 0, .int .u64 0, .slice none 0 0], .int .i64 3]) := by
          rcases hcase with ⟨cc, h1, h2, rfl⟩ | ⟨m, h1, h2, rfl⟩ | ⟨m, a', cs, h1, h2, rfl, h3⟩
          · exact absurd (sealed_code' ⟨E0, HL0.out⟩ h1) h2
          · rfl
          · have := sealed_inj (HL0.out.symm.trans h1)
            subst this
            exact absurd h2 (hno _)
        subst hce
        clear hcase hno
        have H1A : Hid (∀ u ∈ ([.int .i64 0, .slice none 0 0, .int .u64 0, .slice none 0 0] : List Value), u.oneCell' = true) := Lib.hid (by intro v hv; simp only [List.mem_cons, List.not_mem_nil, or_false] at hv; rcases hv with rfl | rfl | rfl | rfl <;> rfl)
        have O6 := Lib.hid o6; clear o6
        go_wp2_with ((refine wpList_store_box (o := ⟨none, _, _, _, _, _⟩) rfl 89 (.tmp 6) (.tmp 98) (by rfl) w6.heap.size [.int .i64 0, .slice none 0 0, .int .u64 0, .slice none 0 0] [.int .i64 0, .slice none 0 0, .int .u64 0, .slice none 0 0] (by rfl) (by rfl) HZ6.out rfl (by kernel_rfl) H1A.out ?_; intro w7 h7x o7x))
        have o67 : Only (fun _ => False) w6 w7 := OZ6.out.trans' o7x (fun q hq e => by omega)
        have H67 := Lib.hid h7x; have O7 := Lib.hid ((O5.out.trans O6.out).trans o67); have HB7 := Lib.hid ((HB5.out.still O6.out).still o67); clear o67 h7x o7x
        refine wp_region_steps 6 (by kernel_rfl) rfl (by kernel_rfl) [some 100, some 101, some 102, some 103, some 104, some 105] rfl rfl (fun _ => False) [(fun v _ => v = (.slice a5 L0.length c5)), (fun v _ => v = (.string ⟨L0.toArray⟩)), (fun v _ => v = (.agg #[.int .i64 cn, .slice ak ks.length ck, .int .u64 since, .slice al n cl])), (fun v w1 => Bytes w1 v E0), (fun v w1 => Bytes w1 v L0), (fun v _ => v = (.string ⟨L0.toArray⟩))] rfl ⟨?_, ?_, ?_, ?_, ?_, ?_, trivial⟩ _ rfl ⟨?_, ?_, ?_, ?_, ?_, ?_, trivial⟩ ?_
        · exact Stable.is _ _
        · exact Stable.is _ _
        · exact Stable.is _ _
        · exact (fun v w1 w2 h ho => h.still ho)
        · exact (fun v w1 w2 h ho => h.still ho)
        · exact Stable.is _ _
        · intro x wx ox hN TT HTT
          clear hN
          unfold StepTo
          simp only [putAll, Act.put, List.setIfInBounds_toArray, List.set_cons_succ, List.set_cons_zero]
          go_wp2_with fail
          exact ⟨rfl, _, rfl, HTT.out _ _ (rfl) (Only.refl _ _)⟩
        · intro x wx ox hN TT HTT
          have r100 : x 0 = (.slice a5 L0.length c5) := hN.1 rfl
          clear hN
          unfold StepTo
          simp only [putAll, Act.put, List.setIfInBounds_toArray, List.set_cons_succ, List.set_cons_zero, r100]
          clear r100
          have hcv := (HB7.out.still (((Only.refl _ w7).drew).trans ox)).conv
          go_wp2_with fail
          exact ⟨rfl, _, rfl, HTT.out _ _ (rfl) (Only.refl _ _)⟩
        · intro x wx ox hN TT HTT
          clear hN
          unfold StepTo
          simp only [putAll, Act.put, List.setIfInBounds_toArray, List.set_cons_succ, List.set_cons_zero]
          obtain ⟨x0, x1, x2, x3⟩ := box4 (HB.out wx (O7.out.trans (((Only.refl _ w7).drew).trans ox))).1
          go_wp2_with fail
          exact ⟨rfl, _, rfl, HTT.out _ _ (rfl) (Only.refl _ _)⟩
        · intro x wx ox hN TT HTT
          have r102 : x 2 = (.agg #[.int .i64 cn, .slice ak ks.length ck, .int .u64 since, .slice al n cl]) := hN.1 rfl
          clear hN
          unfold StepTo
          simp only [putAll, Act.put, List.setIfInBounds_toArray, List.set_cons_succ, List.set_cons_zero, r102]
          clear r102
          have hc := HRA.out wx (O7.out.trans (((Only.refl _ w7).drew).trans ox))
          have HC := Lib.hid hc; clear hc
          go_wp2_with fail
          refine HC.out.mono ?_
          rintro e w6' ⟨v6, rfl, h6, o6⟩
          go_wp2_with fail
          exact ⟨rfl, _, rfl, HTT.out _ _ (h6.bytes) (o6)⟩
        · intro x wx ox hN TT HTT
          have r103 : (fun (v : Value) (w1 : World) => Bytes w1 v E0) (x 3) wx := hN.1 rfl
          clear hN
          unfold StepTo
          simp only [putAll, Act.put, List.setIfInBounds_toArray, List.set_cons_succ, List.set_cons_zero]
          have hc := rSeal _ _ wx r103 (by have := HEL.out; omega)
          rw [← HL0.out] at hc
          have HC := Lib.hid hc; clear hc
          go_wp2_with fail
          refine HC.out.mono ?_
          rintro e w6' ⟨v6, rfl, h6, o6⟩
          go_wp2_with fail
          exact ⟨rfl, _, rfl, HTT.out _ _ (h6.bytes) (o6)⟩
        · intro x wx ox hN TT HTT
          have r104 : (fun (v : Value) (w1 : World) => Bytes w1 v L0) (x 4) wx := hN.1 rfl
          clear hN
          unfold StepTo
          simp only [putAll, Act.put, List.setIfInBounds_toArray, List.set_cons_succ, List.set_cons_zero]
          have hcv := r104.conv
          go_wp2_with fail
          exact ⟨rfl, _, rfl, HTT.out _ _ (rfl) (Only.refl _ _)⟩
        intro xa wxa oxa hN
        have r100 : xa 0 = (.slice a5 L0.length c5) := hN.1
        have r101 : xa 1 = (.string ⟨L0.toArray⟩) := hN.2.1
        have r102 : xa 2 = (.agg #[.int .i64 cn, .slice ak ks.length ck, .int .u64 since, .slice al n cl]) := hN.2.2.1
        have r103 : (fun (v : Value) (w1 : World) => Bytes w1 v E0) (xa 3) wxa := hN.2.2.2.1
        have r104 : (fun (v : Value) (w1 : World) => Bytes w1 v L0) (xa 4) wxa := hN.2.2.2.2.1
        have r105 : xa 5 = (.string ⟨L0.toArray⟩) := hN.2.2.2.2.2.1
        clear hN
        simp only [putAll, Act.put, List.setIfInBounds_toArray, List.set_cons_succ, List.set_cons_zero, r100, r101, r102, r105]
        clear r100 r101 r102 r105
        have o7a := ((Only.refl (fun _ => False) w7).drew).trans oxa
        have O8 := Lib.hid (O7.out.trans o7a)
        have H6A := Lib.hid ((o7a.block _ (Array.getElem?_eq_some_iff.1 H67.out).1 (fun h => h)).trans H67.out)
        obtain ⟨z0, z1, z2, z3⟩ := box4 H6A.out
        clear oxa o7a r103 r104
        go_wp2_with fail
        go_ret
        exact ⟨rfl, (OB.out.trans O8.out).still⟩
      | true =>
        have hyes := HYES.out (by first | rfl | trivial)
        have hcs : ∃ cs, e = .returned (.tuple #[.agg cs.toArray, .int .i64 0]) ∧ AskAt w6 (fun q => w5.heap.size ≤ q) ⟨cn, ks, since, ms⟩ cs := by
          rcases hcase with ⟨cc, h1, h2, rfl⟩ | ⟨m, h1, h2, rfl⟩ | ⟨m, a', cs, h1, h2, rfl, h3⟩
          · exact absurd (sealed_code' ⟨E0, HL0.out⟩ h1) h2
          · have := sealed_inj (HL0.out.symm.trans h1)
            subst this
            exact absurd hyes (h2 _)
          · have := sealed_inj (HL0.out.symm.trans h1)
            subst this
            have := ask_one hyes h2
            subst this
            exact ⟨cs, rfl, h3⟩
        obtain ⟨cs6, rfl, hat6⟩ := hcs
        obtain ⟨d0, d1, d2, d3, rfl, h1a⟩ := askAt_one hat6
        have H1A := Lib.hid h1a; have HAT6 := Lib.hid hat6; have O6 := Lib.hid o6; have HY := Lib.hid hyes; clear hcase hyes h1a hat6 o6
        have hzz := zero_Ask
        go_wp2_with ((refine wpList_store_box (o := ⟨none, _, _, _, _, _⟩) rfl 89 (.tmp 6) (.tmp 98) (by rfl) w6.heap.size [.int .i64 0, .slice none 0 0, .int .u64 0, .slice none 0 0] [d0, d1, d2, d3] (by rfl) (by rfl) HZ6.out rfl (by kernel_rfl) H1A.out ?_; intro w7 h7x o7x; clear hzz))
        have o67 : Only (fun _ => False) w6 w7 := OZ6.out.trans' o7x (fun q hq e => by omega)
        have H67 := Lib.hid h7x; have O67 := Lib.hid o67; have O7 := Lib.hid ((O5.out.trans O6.out).trans o67); have HB7 := Lib.hid ((HB5.out.still O6.out).still o67); clear o67 h7x o7x
        refine wp_region_steps 6 (by kernel_rfl) rfl (by kernel_rfl) [some 100, some 101, some 102, some 103, some 104, some 105] rfl rfl (fun _ => False) [(fun v _ => v = (.slice a5 L0.length c5)), (fun v _ => v = (.string ⟨L0.toArray⟩)), (fun v _ => v = (.agg #[.int .i64 cn, .slice ak ks.length ck, .int .u64 since, .slice al n cl])), (fun v w1 => Bytes w1 v E0), (fun v w1 => Bytes w1 v L0), (fun v _ => v = (.string ⟨L0.toArray⟩))] rfl ⟨?_, ?_, ?_, ?_, ?_, ?_, trivial⟩ _ rfl ⟨?_, ?_, ?_, ?_, ?_, ?_, trivial⟩ ?_
        · exact Stable.is _ _
        · exact Stable.is _ _
        · exact Stable.is _ _
        · exact (fun v w1 w2 h ho => h.still ho)
        · exact (fun v w1 w2 h ho => h.still ho)
        · exact Stable.is _ _
        · intro x wx ox hN TT HTT
          clear hN
          unfold StepTo
          simp only [putAll, Act.put, List.setIfInBounds_toArray, List.set_cons_succ, List.set_cons_zero]
          go_wp2_with fail
          exact ⟨rfl, _, rfl, HTT.out _ _ (rfl) (Only.refl _ _)⟩
        · intro x wx ox hN TT HTT
          have r100 : x 0 = (.slice a5 L0.length c5) := hN.1 rfl
          clear hN
          unfold StepTo
          simp only [putAll, Act.put, List.setIfInBounds_toArray, List.set_cons_succ, List.set_cons_zero, r100]
          clear r100
          have hcv := (HB7.out.still (((Only.refl _ w7).drew).trans ox)).conv
          go_wp2_with fail
          exact ⟨rfl, _, rfl, HTT.out _ _ (rfl) (Only.refl _ _)⟩
        · intro x wx ox hN TT HTT
          clear hN
          unfold StepTo
          simp only [putAll, Act.put, List.setIfInBounds_toArray, List.set_cons_succ, List.set_cons_zero]
          obtain ⟨x0, x1, x2, x3⟩ := box4 (HB.out wx (O7.out.trans (((Only.refl _ w7).drew).trans ox))).1
          go_wp2_with fail
          exact ⟨rfl, _, rfl, HTT.out _ _ (rfl) (Only.refl _ _)⟩
        · intro x wx ox hN TT HTT
          have r102 : x 2 = (.agg #[.int .i64 cn, .slice ak ks.length ck, .int .u64 since, .slice al n cl]) := hN.1 rfl
          clear hN
          unfold StepTo
          simp only [putAll, Act.put, List.setIfInBounds_toArray, List.set_cons_succ, List.set_cons_zero, r102]
          clear r102
          have hc := HRA.out wx (O7.out.trans (((Only.refl _ w7).drew).trans ox))
          have HC := Lib.hid hc; clear hc
          go_wp2_with fail
          refine HC.out.mono ?_
          rintro e w6' ⟨v6, rfl, h6, o6⟩
          go_wp2_with fail
          exact ⟨rfl, _, rfl, HTT.out _ _ (h6.bytes) (o6)⟩
        · intro x wx ox hN TT HTT
          have r103 : (fun (v : Value) (w1 : World) => Bytes w1 v E0) (x 3) wx := hN.1 rfl
          clear hN
          unfold StepTo
          simp only [putAll, Act.put, List.setIfInBounds_toArray, List.set_cons_succ, List.set_cons_zero]
          have hc := rSeal _ _ wx r103 (by have := HEL.out; omega)
          rw [← HL0.out] at hc
          have HC := Lib.hid hc; clear hc
          go_wp2_with fail
          refine HC.out.mono ?_
          rintro e w6' ⟨v6, rfl, h6, o6⟩
          go_wp2_with fail
          exact ⟨rfl, _, rfl, HTT.out _ _ (h6.bytes) (o6)⟩
        · intro x wx ox hN TT HTT
          have r104 : (fun (v : Value) (w1 : World) => Bytes w1 v L0) (x 4) wx := hN.1 rfl
          clear hN
          unfold StepTo
          simp only [putAll, Act.put, List.setIfInBounds_toArray, List.set_cons_succ, List.set_cons_zero]
          have hcv := r104.conv
          go_wp2_with fail
          exact ⟨rfl, _, rfl, HTT.out _ _ (rfl) (Only.refl _ _)⟩
        intro xa wxa oxa hN
        have r100 : xa 0 = (.slice a5 L0.length c5) := hN.1
        have r101 : xa 1 = (.string ⟨L0.toArray⟩) := hN.2.1
        have r102 : xa 2 = (.agg #[.int .i64 cn, .slice ak ks.length ck, .int .u64 since, .slice al n cl]) := hN.2.2.1
        have r103 : (fun (v : Value) (w1 : World) => Bytes w1 v E0) (xa 3) wxa := hN.2.2.2.1
        have r104 : (fun (v : Value) (w1 : World) => Bytes w1 v L0) (xa 4) wxa := hN.2.2.2.2.1
        have r105 : xa 5 = (.string ⟨L0.toArray⟩) := hN.2.2.2.2.2.1
        clear hN
        simp only [putAll, Act.put, List.setIfInBounds_toArray, List.set_cons_succ, List.set_cons_zero, r100, r101, r102, r105]
        clear r100 r101 r102 r105
        have o7a := ((Only.refl (fun _ => False) w7).drew).trans oxa
        have O8 := Lib.hid (O7.out.trans o7a)
        have H6A := Lib.hid ((o7a.block _ (Array.getElem?_eq_some_iff.1 H67.out).1 (fun h => h)).trans H67.out)
        have hat8 := HAT6.out.only (O67.out.trans o7a) (fun _ _ h => h)
        have HAT8 := Lib.hid hat8; have HB8 := Lib.hid (HB7.out.still o7a)
        clear oxa o7a r103 r104 hat8
        have hdt := dcdt_any _ L0 wxa HB8.out (by have := HLL.out; omega)
        have HDT := Lib.hid hdt; clear hdt
        go_wp2_with fail
        refine HDT.out.mono ?_
        rintro e w9 ⟨o9, hcase⟩
        have hce : e = .returned (.tuple #[.agg #[.int .i64 0, .int .u64 0, .slice none 0 0, .int .u64 0, .int .u64 0, .slice none 0 0, .slice none 0 0], .int .i64 3]) := by
          rcases hcase with ⟨cc, h1, h2, rfl⟩ | ⟨m, h1, h2, rfl⟩ | ⟨m, a', cs, h1, h2, rfl, h3⟩
          · exact absurd (sealed_code' ⟨E0, HL0.out⟩ h1) h2
          · rfl
          · have := sealed_inj (HL0.out.symm.trans h1)
            subst this
            exact (ask_not_tell HY.out h2).elim
        subst hce
        clear hcase
        have hz9 := heap_new w9 (.cells #[.int .i64 0, .int .u64 0, .slice none 0 0, .int .u64 0, .int .u64 0, .slice none 0 0, .slice none 0 0] 83)
        have oz9 := (Only.refl (fun _ => False) w9).alloc (.cells #[.int .i64 0, .int .u64 0, .slice none 0 0, .int .u64 0, .int .u64 0, .slice none 0 0, .slice none 0 0] 83)
        have HZ9 := Lib.hid hz9; have OZ9 := Lib.hid oz9; have O9 := Lib.hid o9; clear hz9 oz9 o9
        have H1B : Hid (∀ u ∈ ([.int .i64 0, .int .u64 0, .slice none 0 0, .int .u64 0, .int .u64 0, .slice none 0 0, .slice none 0 0] : List Value), u.oneCell' = true) := Lib.hid (by intro v hv; simp only [List.mem_cons, List.not_mem_nil, or_false] at hv; rcases hv with rfl | rfl | rfl | rfl | rfl | rfl | rfl <;> rfl)
        have hzz := zero_Tell
        go_wp2_with ((refine wpList_store_box (o := ⟨none, _, _, _, _, _⟩) rfl 83 (.tmp 8) (.tmp 120) (by rfl) w9.heap.size [.int .i64 0, .int .u64 0, .slice none 0 0, .int .u64 0, .int .u64 0, .slice none 0 0, .slice none 0 0] [.int .i64 0, .int .u64 0, .slice none 0 0, .int .u64 0, .int .u64 0, .slice none 0 0, .slice none 0 0] (by rfl) (by rfl) HZ9.out rfl (by kernel_rfl) H1B.out ?_; intro w10 h10x o10x; clear hzz))
        have o910 : Only (fun _ => False) w9 w10 := OZ9.out.trans' o10x (fun q hq e => by omega)
        have oxa10 := O9.out.trans o910
        have HAT10 := Lib.hid (HAT8.out.only oxa10 (fun _ _ h => h)); have O10 := Lib.hid (O8.out.trans oxa10); have H610 := Lib.hid ((oxa10.block _ (Array.getElem?_eq_some_iff.1 H6A.out).1 (fun h => h)).trans H6A.out)
        clear o910 oxa10 h10x o10x
        refine wp_region_steps 15 (by kernel_rfl) rfl (by kernel_rfl) [some 122, some 123, some 124, some 125, some 126, some 127, some 128, some 129, some 130, some 131, some 132, some 133, some 134, some 135, some 136] rfl rfl (fun _ => False) [(fun v _ => v = (.int .i64 0)), (fun v _ => v = (.bool true)), (fun v _ => v = (.bool true)), (fun v _ => v = (.agg #[d0, d1, d2, d3])), (fun v w1 => Bytes w1 v E0), (fun v _ => v = (.string ⟨E0.toArray⟩)), (fun v _ => v = (.agg #[.int .i64 cn, .slice ak ks.length ck, .int .u64 since, .slice al n cl])), (fun v w1 => Bytes w1 v E0), (fun v _ => v = (.string ⟨E0.toArray⟩)), (fun v _ => v = (.bool true)), (fun v _ => v = (.bool true)), (fun v _ => v = (.bool true)), (fun v _ => v = (.int .i64 3)), (fun v _ => v = (.bool true)), (fun v _ => v = (.bool true))] rfl ⟨?_, ?_, ?_, ?_, ?_, ?_, ?_, ?_, ?_, ?_, ?_, ?_, ?_, ?_, ?_, trivial⟩ _ rfl ⟨?_, ?_, ?_, ?_, ?_, ?_, ?_, ?_, ?_, ?_, ?_, ?_, ?_, ?_, ?_, trivial⟩ ?_
        · exact Stable.is _ _
        · exact Stable.is _ _
        · exact Stable.is _ _
        · exact Stable.is _ _
        · exact (fun v w1 w2 h ho => h.still ho)
        · exact Stable.is _ _
        · exact Stable.is _ _
        · exact (fun v w1 w2 h ho => h.still ho)
        · exact Stable.is _ _
        · exact Stable.is _ _
        · exact Stable.is _ _
        · exact Stable.is _ _
        · exact Stable.is _ _
        · exact Stable.is _ _
        · exact Stable.is _ _
        · intro x wx ox hN TT HTT
          clear hN
          unfold StepTo
          simp only [putAll, Act.put, List.setIfInBounds_toArray, List.set_cons_succ, List.set_cons_zero]
          go_wp2_with fail
          exact ⟨rfl, _, rfl, HTT.out _ _ (rfl) (Only.refl _ _)⟩
        · intro x wx ox hN TT HTT
          have r122 : x 0 = (.int .i64 0) := hN.1 rfl
          clear hN
          unfold StepTo
          simp only [putAll, Act.put, List.setIfInBounds_toArray, List.set_cons_succ, List.set_cons_zero, r122]
          clear r122
          go_wp2_with fail
          exact ⟨rfl, _, rfl, HTT.out _ _ (rfl) (Only.refl _ _)⟩
        · intro x wx ox hN TT HTT
          have r123 : x 1 = (.bool true) := hN.1 rfl
          clear hN
          unfold StepTo
          simp only [putAll, Act.put, List.setIfInBounds_toArray, List.set_cons_succ, List.set_cons_zero, r123]
          clear r123
          go_wp2_with fail
          exact ⟨rfl, _, rfl, HTT.out _ _ (rfl) (Only.refl _ _)⟩
        · intro x wx ox hN TT HTT
          have r124 : x 2 = (.bool true) := hN.1 rfl
          clear hN
          unfold StepTo
          simp only [putAll, Act.put, List.setIfInBounds_toArray, List.set_cons_succ, List.set_cons_zero, r124]
          clear r124
          obtain ⟨z0, z1, z2, z3⟩ := box4 ((ox.block _ (Array.getElem?_eq_some_iff.1 H610.out).1 (fun h => h)).trans H610.out)
          go_wp2_with fail
          exact ⟨rfl, _, rfl, HTT.out _ _ (rfl) (Only.refl _ _)⟩
        · intro x wx ox hN TT HTT
          have r125 : x 3 = (.agg #[d0, d1, d2, d3]) := hN.1 rfl
          have r124 : x 2 = (.bool true) := hN.2.1 rfl
          clear hN
          unfold StepTo
          simp only [putAll, Act.put, List.setIfInBounds_toArray, List.set_cons_succ, List.set_cons_zero, r125, r124]
          clear r125 r124
          have hc := HRA0.out wx _ _ (HAT10.out.only (((Only.refl _ w10).drew).trans ox) (fun _ _ h => h))
          have HC := Lib.hid hc; clear hc
          go_wp2_with fail
          refine HC.out.mono ?_
          rintro e w6' ⟨v6, rfl, h6, o6⟩
          go_wp2_with fail
          exact ⟨rfl, _, rfl, HTT.out _ _ (h6.bytes) (o6)⟩
        · intro x wx ox hN TT HTT
          have r126 : (fun (v : Value) (w1 : World) => Bytes w1 v E0) (x 4) wx := hN.1 rfl
          have r124 : x 2 = (.bool true) := hN.2.1 rfl
          clear hN
          unfold StepTo
          simp only [putAll, Act.put, List.setIfInBounds_toArray, List.set_cons_succ, List.set_cons_zero, r124]
          clear r124
          have hcv := r126.conv
          go_wp2_with fail
          exact ⟨rfl, _, rfl, HTT.out _ _ (rfl) (Only.refl _ _)⟩
        · intro x wx ox hN TT HTT
          have r124 : x 2 = (.bool true) := hN.1 rfl
          clear hN
          unfold StepTo
          simp only [putAll, Act.put, List.setIfInBounds_toArray, List.set_cons_succ, List.set_cons_zero, r124]
          clear r124
          obtain ⟨x0, x1, x2, x3⟩ := box4 (HB.out wx (O10.out.trans (((Only.refl _ w10).drew).trans ox))).1
          go_wp2_with fail
          exact ⟨rfl, _, rfl, HTT.out _ _ (rfl) (Only.refl _ _)⟩
        · intro x wx ox hN TT HTT
          have r128 : x 6 = (.agg #[.int .i64 cn, .slice ak ks.length ck, .int .u64 since, .slice al n cl]) := hN.1 rfl
          have r126 : (fun (v : Value) (w1 : World) => Bytes w1 v E0) (x 4) wx := hN.2.1 rfl
          have r124 : x 2 = (.bool true) := hN.2.2.1 rfl
          clear hN
          unfold StepTo
          simp only [putAll, Act.put, List.setIfInBounds_toArray, List.set_cons_succ, List.set_cons_zero, r128, r124]
          clear r128 r124
          have hc := HRA.out wx (O10.out.trans (((Only.refl _ w10).drew).trans ox))
          have HC := Lib.hid hc; clear hc
          go_wp2_with fail
          refine HC.out.mono ?_
          rintro e w6' ⟨v6, rfl, h6, o6⟩
          go_wp2_with fail
          exact ⟨rfl, _, rfl, HTT.out _ _ (h6.bytes) (o6)⟩
        · intro x wx ox hN TT HTT
          have r129 : (fun (v : Value) (w1 : World) => Bytes w1 v E0) (x 7) wx := hN.1 rfl
          have r124 : x 2 = (.bool true) := hN.2.1 rfl
          clear hN
          unfold StepTo
          simp only [putAll, Act.put, List.setIfInBounds_toArray, List.set_cons_succ, List.set_cons_zero, r124]
          clear r124
          have hcv := r129.conv
          go_wp2_with fail
          exact ⟨rfl, _, rfl, HTT.out _ _ (rfl) (Only.refl _ _)⟩
        · intro x wx ox hN TT HTT
          have r127 : x 5 = (.string ⟨E0.toArray⟩) := hN.1 rfl
          have r130 : x 8 = (.string ⟨E0.toArray⟩) := hN.2.1 rfl
          have r124 : x 2 = (.bool true) := hN.2.2.1 rfl
          clear hN
          unfold StepTo
          simp only [putAll, Act.put, List.setIfInBounds_toArray, List.set_cons_succ, List.set_cons_zero, r127, r130, r124]
          clear r127 r130 r124
          go_wp2_with fail
          exact ⟨rfl, _, rfl, HTT.out _ _ (rfl) (Only.refl _ _)⟩
        · intro x wx ox hN TT HTT
          have r124 : x 2 = (.bool true) := hN.1 rfl
          have r131 : x 9 = (.bool true) := hN.2.1 rfl
          clear hN
          unfold StepTo
          simp only [putAll, Act.put, List.setIfInBounds_toArray, List.set_cons_succ, List.set_cons_zero, r124, r131]
          clear r124 r131
          go_wp2_with fail
          exact ⟨rfl, _, rfl, HTT.out _ _ (rfl) (Only.refl _ _)⟩
        · intro x wx ox hN TT HTT
          have r132 : x 10 = (.bool true) := hN.1 rfl
          have r129 : (fun (v : Value) (w1 : World) => Bytes w1 v E0) (x 7) wx := hN.2.1 rfl
          clear hN
          unfold StepTo
          simp only [putAll, Act.put, List.setIfInBounds_toArray, List.set_cons_succ, List.set_cons_zero, r132]
          clear r132
          go_wp2_with fail
          exact ⟨rfl, _, rfl, HTT.out _ _ (rfl) (Only.refl _ _)⟩
        · intro x wx ox hN TT HTT
          have r133 : x 11 = (.bool true) := hN.1 rfl
          clear hN
          unfold StepTo
          simp only [putAll, Act.put, List.setIfInBounds_toArray, List.set_cons_succ, List.set_cons_zero, r133]
          clear r133
          go_wp2_with fail
          exact ⟨rfl, _, rfl, HTT.out _ _ (rfl) (Only.refl _ _)⟩
        · intro x wx ox hN TT HTT
          have r134 : x 12 = (.int .i64 3) := hN.1 rfl
          have r133 : x 11 = (.bool true) := hN.2.1 rfl
          clear hN
          unfold StepTo
          simp only [putAll, Act.put, List.setIfInBounds_toArray, List.set_cons_succ, List.set_cons_zero, r134, r133]
          clear r134 r133
          go_wp2_with fail
          exact ⟨rfl, _, rfl, HTT.out _ _ (rfl) (Only.refl _ _)⟩
        · intro x wx ox hN TT HTT
          have r133 : x 11 = (.bool true) := hN.1 rfl
          have r135 : x 13 = (.bool true) := hN.2.1 rfl
          clear hN
          unfold StepTo
          simp only [putAll, Act.put, List.setIfInBounds_toArray, List.set_cons_succ, List.set_cons_zero, r133, r135]
          clear r133 r135
          go_wp2_with fail
          exact ⟨rfl, _, rfl, HTT.out _ _ (rfl) (Only.refl _ _)⟩
        · intro x wx ox hN
          have r122 : x 0 = (.int .i64 0) := hN.1
          have r123 : x 1 = (.bool true) := hN.2.1
          have r124 : x 2 = (.bool true) := hN.2.2.1
          have r125 : x 3 = (.agg #[d0, d1, d2, d3]) := hN.2.2.2.1
          have r126 : (fun (v : Value) (w1 : World) => Bytes w1 v E0) (x 4) wx := hN.2.2.2.2.1
          have r127 : x 5 = (.string ⟨E0.toArray⟩) := hN.2.2.2.2.2.1
          have r128 : x 6 = (.agg #[.int .i64 cn, .slice ak ks.length ck, .int .u64 since, .slice al n cl]) := hN.2.2.2.2.2.2.1
          have r129 : (fun (v : Value) (w1 : World) => Bytes w1 v E0) (x 7) wx := hN.2.2.2.2.2.2.2.1
          have r130 : x 8 = (.string ⟨E0.toArray⟩) := hN.2.2.2.2.2.2.2.2.1
          have r131 : x 9 = (.bool true) := hN.2.2.2.2.2.2.2.2.2.1
          have r132 : x 10 = (.bool true) := hN.2.2.2.2.2.2.2.2.2.2.1
          have r133 : x 11 = (.bool true) := hN.2.2.2.2.2.2.2.2.2.2.2.1
          have r134 : x 12 = (.int .i64 3) := hN.2.2.2.2.2.2.2.2.2.2.2.2.1
          have r135 : x 13 = (.bool true) := hN.2.2.2.2.2.2.2.2.2.2.2.2.2.1
          have r136 : x 14 = (.bool true) := hN.2.2.2.2.2.2.2.2.2.2.2.2.2.2.1
          clear hN
          simp only [putAll, Act.put, List.setIfInBounds_toArray, List.set_cons_succ, List.set_cons_zero, r122, r123, r124, r125, r127, r128, r130, r131, r132, r133, r134, r135, r136]
          clear r122 r123 r124 r125 r127 r128 r130 r131 r132 r133 r134 r135 r136
          go_wp2_with fail
          go_ret
          exact ⟨rfl, ((OB.out.trans O10.out).trans (((Only.refl _ w10).drew).trans ox)).still⟩
theorem asks_walk (v0 : Value) (w : World) {H : Type} {enc : TypeId × Value → H} {d0 : DataW H} {p0 : List MemPlace} {b0 : Nat}
    (h0 : DataW.Trod enc Try.prog w 0 (fun _ => true) true 89 v0 d0 p0) (g0 : Value.okWide Try.prog w .any b0 89 v0) (hk : Rows.uptoBulk d0 ≤ 1048576) :
    Calls Try.prog 14 #[v0] w fun e w' => e = .returned (.bool true) ∧ Below w.heap.size w w' := by
  obtain ⟨c, ks, since, ms, ak, ck, al, cl, rfl, q1, q2, q3, q4, q5, q6, q7, q8, q9⟩ := ask_of_Trod h0
  exact asks0 c ks since ms ak ck al cl w q1 q2 q3 q4 q5 q6 q7 (fun s hs => Nat.le_trans (q8 s hs).2 hk) (fun x hx => ⟨(q9 x hx).1, Nat.le_trans (q9 x hx).2 hk⟩)
end Go.Proofs.Ytoojnpafcdaflaa
