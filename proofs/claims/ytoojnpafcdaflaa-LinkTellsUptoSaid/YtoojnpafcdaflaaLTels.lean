/- How long a value's bytes are, if it is of the form and not too great: plain. Arguments that came in, opened with what they weigh: what a client asks. Arguments that came in, opened with what they weigh: what a server tells. EncodeTell of much: as XLet's, with a greater bound. columbarylaw17.tell: the document's frame. columbarylaw17.LinkTells: the walk. -/
import Derived.Test.YtoojnpafcdaflaaDec
import Derived.Test.YtoojnpafcdaflaaLfr
import Derived.Test.YtoojnpafcdaflaaRows
import Derived.Test.YtoojnpafcdaflaaLet
import Derived.Test.YtoojnpafcdaflaaLdt
import Derived.Test.YtoojnpafcdaflaaLnkA
import Derived.BigQuiet
namespace Go.Proofs.Ytoojnpafcdaflaa
open Go Go.RowKit
set_option linter.unusedVariables false
set_option linter.unusedSimpArgs false

theorem encT_leN {s : List UInt8} {n : Nat} (h : s.length ≤ n) (hn : n < 16384) : (encT s).length ≤ n + 2 := by
  unfold encT
  rw [List.length_append]
  have := encU_len (k := 1) (n := s.length) (by omega)
  omega
theorem cntVs_mono : ∀ (vs : List VT) (d : Nat) (m c : Int), c ≤ cntVs vs d m c
  | [], _, _, _ => by simp only [cntVs]; exact Int.le_refl _
  | v :: vs, d, m, c => by
    simp only [cntVs]
    split
    · rename_i h
      have h1 := cntV_le v (d + 1) (m - c) (by omega)
      have h2 := cntVs_mono vs d m (c + cntV v (d + 1) (m - c))
      omega
    · exact Int.le_refl _
mutual
theorem enc_len : ∀ (t : VT) (d : Nat) (m : Int), SmallV t → 0 ≤ m → formV t d = true → cntV t d m ≤ m → ((encV t).length : Int) + 40 ≤ 300 * cntV t d m
  | .mk k n s ks vs, d, m, hs, hm, hf, hc => by
    simp only [SmallV] at hs
    obtain ⟨⟨h1, h2, h3, h4, h5, h6, h7, h8, h9⟩, hvs⟩ := formV_mk hf
    simp only [cntV] at hc ⊢
    rw [if_neg (by omega)] at hc ⊢
    split at hc
    · omega
    · rename_i hn
      rw [if_neg hn]
      have hrec := encs_len (decide (k = 6)) ks vs d m 1 hs.2 (by omega) hvs hc
      have hk : (encU k).length = 1 := by rw [encU_small (by omega)]; rfl
      have hmono := cntVs_mono vs d m 1
      simp only [encV, List.length_append, hk]
      split
      · have := encU_len10 (zig_lt hs.1.1 hs.1.2)
        omega
      · split
        · have := encT_leN h4 (by decide)
          omega
        · split
          · have := encU_len (k := 1) (n := vs.length) (by omega)
            rw [List.length_append]
            omega
          · simp
            omega
theorem encs_len : ∀ (o : Bool) (ks : List (List UInt8)) (vs : List VT) (d : Nat) (m c : Int), SmallVs vs → 1 ≤ c → formVs o ks vs (d + 1) = true → cntVs vs d m c ≤ m → ((encVs o ks vs).length : Int) + 300 * c ≤ 300 * cntVs vs d m c
  | _, _, [], _, _, _, _, _, _, _ => by simp only [cntVs, encVs]; simp
  | o, ks, v :: vs, d, m, c, hs, h1, hf, hc => by
    obtain ⟨g1, g2, g3⟩ := formVs_cons hf
    simp only [cntVs] at hc ⊢
    split at hc
    · rename_i hcm
      rw [if_pos hcm]
      have hm := cntVs_mono vs d m (c + cntV v (d + 1) (m - c))
      have hr := encs_len o ks.tail vs d m (c + cntV v (d + 1) (m - c)) hs.2 (by have := cntV_le v (d + 1) (m - c) (by omega); omega) g3 hc
      have hv := enc_len v (d + 1) (m - c) hs.1 (by omega) g2 (by omega)
      simp only [encVs, List.length_append]
      have hk : (if o then encT (ks.headD []) else []).length ≤ 34 := by
        cases o
        · simp
        · simp only [if_true]; exact encT_leN (g1 rfl) (by decide)
      omega
    · omega
end
theorem form_len {t : VT} (hs : SmallV t) (hg : greatV t = false) (hf : formV t 0 = true) : (encV t).length ≤ 900000 := by
  have hc : cntV t 0 3000 ≤ 3000 := by simpa [greatV] using hg
  have := enc_len t 0 3000 hs (by decide) hf hc
  omega
end Go.Proofs.Ytoojnpafcdaflaa
namespace Go.Proofs.Ytoojnpafcdaflaa
open Go Go.RowKit
set_option linter.unusedVariables false
set_option linter.unusedSimpArgs false
set_option maxRecDepth 100000
section
variable {H : Type} {enc : TypeId × Value → H} {P : Program}
theorem bulk_one (d : DataW H) : 1 ≤ Rows.uptoBulk d := by
  cases d with
  | lit l => cases l <;> simp [Rows.uptoBulk]
  | nil => simp [Rows.uptoBulk]
  | ptr d => simp [Rows.uptoBulk]
  | slice elems spare => simp [Rows.uptoBulk]
  | agg parts => simp [Rows.uptoBulk]
  | iface t d => simp [Rows.uptoBulk]
  | map entries => simp [Rows.uptoBulk]
  | held h => simp [Rows.uptoBulk]
theorem bulk_part {d : DataW H} {l : List (DataW H)} (h : d ∈ l) : Rows.uptoBulk d ≤ Rows.uptoBulkAll l := by
  induction l with
  | nil => cases h
  | cons x r ih =>
    simp only [Rows.uptoBulkAll]
    cases List.mem_cons.1 h with
    | inl e => subst e; omega
    | inr e => have := ih e; omega
/-- A slice that came in: its elements, what they weigh. -/
theorem slice_of_trod_b {w : World} {t e : TypeId} {fuel : Nat} {cs : List Value} {x : DataW H × List MemPlace} {size : Nat}
    (ht : P.underlying t = some (.slice e)) (hE : P.cellsOf e = size) (hs : 0 < size)
    (h : DataW.trod enc P w 0 (fun _ => true) true fuel t cs = some x) :
    ∃ a len cap, cs = [.slice a len cap] ∧ len ≤ cap ∧ cap ≤ maxLen ∧
      (0 < len → ∃ b off n, a = some ⟨b, off, none⟩ ∧ fuel = n + 1 ∧ b < w.heap.size ∧ ∀ i, i < len → ∃ cs' y, cs'.length = size ∧ w.rangeAt b (off + i * size) cs' ∧ DataW.trod enc P w 0 (fun _ => true) true n e cs' = some y ∧ Rows.uptoBulk y.1 ≤ Rows.uptoBulk x.1) := by
  rcases DataW.trod_slice ht h with ⟨rfl, _⟩ | ⟨a, len, cap, elems, rest, n, hn, rfl, hx, hb, hl, hm, hlen, hel, _, _⟩
  · exact ⟨none, 0, 0, rfl, Nat.le_refl _, Nat.zero_le _, fun h => absurd h (by decide)⟩
  · refine ⟨some a, len, cap, rfl, hl, hm, fun hp => ?_⟩
    have hbulk : ∀ y ∈ elems, Rows.uptoBulk y.1 ≤ Rows.uptoBulk x.1 := fun y hy => by
      have h1 := bulk_part (d := y.1) (l := elems.map (·.1)) (List.mem_map_of_mem hy)
      rw [hx]
      simp only [Rows.uptoBulk]
      omega
    have hget : ∀ i, i < len → ∃ cs' y, w.cells? 0 (a.add (i * P.cellsOf e)) (P.cellsOf e) = some cs' ∧ DataW.trod enc P w 0 (fun _ => true) true n e cs' = some y ∧ y ∈ elems := by
      intro i hi
      have := hel i hi
      rw [List.getElem?_eq_getElem (by omega)] at this
      obtain ⟨cs', h1, h2⟩ := Option.bind_eq_some_iff.1 this
      exact ⟨cs', _, h1, h2, List.getElem_mem _⟩
    obtain ⟨b, off, spot⟩ := a
    have hsp : spot = none := by
      obtain ⟨cs', _, h1, _⟩ := hget 0 hp
      obtain ⟨hlen, hcell⟩ := (World.cells?_some h1).2
      have hc0 := hcell 0 (by rw [hE]; exact hs)
      have hx : ∃ x, cs'[0]? = some x := ⟨cs'[0]'(by rw [hlen, hE]; exact hs), List.getElem?_eq_getElem _⟩
      obtain ⟨x, hx⟩ := hx
      rw [hx] at hc0
      simpa [Addr.add] using World.cell?_spot hc0
    subst hsp
    refine ⟨b, off, n, rfl, hn, ?_, fun i hi => ?_⟩
    · obtain ⟨cs', _, h1, _⟩ := hget 0 hp
      have hblk := World.cells?_block h1 (by rw [hE]; exact hs)
      rw [addr_add] at hblk; exact hblk
    · obtain ⟨cs', y, h1, h2, h3⟩ := hget i hi
      obtain ⟨hlen, hcell⟩ := (World.cells?_some h1).2
      rw [hE] at hlen hcell
      refine ⟨cs', y, hlen, fun j v hv => ?_, h2, hbulk y h3⟩
      have hj : j < size := by have := (List.getElem?_eq_some_iff.1 hv).1; omega
      have := hcell j hj
      rw [Go.Deep.add_add, addr_add, hv] at this
      rw [← this, Nat.add_assoc]
/-- A row of things out of such a slice. -/
theorem rows_of {α : Type} {n : Nat} {Pr : World → (Nat → Prop) → α → List Value → Prop} {Q : α → Prop} {w : World} {G : Nat → Prop} {b : Nat} : ∀ (len off : Nat), (∀ i, i < len → ∃ cs, cs.length = n ∧ w.rangeAt b (off + i * n) cs ∧ ∃ x, Pr w G x cs ∧ Q x) → ∃ xs : List α, xs.length = len ∧ RowAt n Pr w G xs b off ∧ ∀ x ∈ xs, Q x
  | 0, _, _ => ⟨[], rfl, trivial, fun x hx => by cases hx⟩
  | len + 1, off, h => by
    obtain ⟨cs, h1, h2, x, h3, h4⟩ := h 0 (by omega)
    rw [Nat.zero_mul, Nat.add_zero] at h2
    obtain ⟨xs, g1, g2, g3⟩ := rows_of len (off + n) (fun i hi => by
      have := h (i + 1) (by omega)
      rw [show off + (i + 1) * n = off + n + i * n from by rw [Nat.add_mul]; omega] at this
      exact this)
    exact ⟨x :: xs, by simp [g1], ⟨⟨cs, h1, h2, h3⟩, g2⟩, fun y hy => by
      rcases List.mem_cons.1 hy with e | hy
      · subst e; exact h4
      · exact g3 y hy⟩
theorem str_cell_b {w : World} {n : Nat} {t : TypeId} {cs : List Value} {x : DataW H × List MemPlace} (ht : P.underlying t = some .string) (h : DataW.trod enc P w 0 (fun _ => true) true n t cs = some x) :
    ∃ s : List UInt8, cs = [strV s] ∧ s.length ≤ maxLen ∧ s.length ≤ Rows.uptoBulk x.1 := by
  obtain ⟨s, rfl, hx, hs⟩ := DataW.trod_string ht h
  refine ⟨s.data.toList, by simp [strV], ?_, ?_⟩
  · rw [Array.length_toList]; exact hs
  · rw [hx]; simp [Rows.uptoBulk]
theorem texts_of_slice_b {w : World} {fuel : Nat} {cs : List Value} {x : DataW H × List MemPlace} (h : DataW.trod enc Try.prog w 0 (fun _ => true) true fuel 32 cs = some x) :
    ∃ (ks : List (List UInt8)) (a : Option Addr) (c : Nat), cs = [.slice a ks.length c] ∧ Fits ks.length c ∧ ListAt 1 TextP w (fun q => q < w.heap.size) a ks ∧ (∀ s ∈ ks, s.length ≤ maxLen) ∧ ∀ s ∈ ks, s.length ≤ Rows.uptoBulk x.1 := by
  obtain ⟨ak, lk, ck, g3, lk1, ck1, hK⟩ := slice_of_trod_b (size := 1) Try.underlying32 (by kernel_rfl) (by decide) h
  rcases Nat.eq_zero_or_pos lk with h0 | h0
  · subst h0
    exact ⟨[], ak, ck, g3, ⟨Nat.zero_le _, ck1⟩, ListAt.nil, (fun s hs => by cases hs), (fun s hs => by cases hs)⟩
  · obtain ⟨b, off, n, rfl, hn, hb, hi⟩ := hK h0
    obtain ⟨ks, h1, h2, h3⟩ := rows_of (Pr := TextP) (G := fun q => q < w.heap.size) (Q := fun s => s.length ≤ maxLen ∧ s.length ≤ Rows.uptoBulk x.1) (w := w) (b := b) (n := 1) lk off (fun i hi' => by
      obtain ⟨cs', y, q1, q2, q3, q4⟩ := hi i hi'
      obtain ⟨s, rfl, q5, q6⟩ := str_cell_b Try.underlying9 q3
      exact ⟨[strV s], rfl, q2, s, rfl, q5, Nat.le_trans q6 q4⟩)
    subst h1
    exact ⟨ks, _, ck, g3, ⟨lk1, ck1⟩, fun _ => ⟨b, off, rfl, hb, hb, h2⟩, fun s hs => (h3 s hs).1, fun s hs => (h3 s hs).2⟩
theorem mut_cells : Try.prog.cellsOf 64 = 7 := by kernel_rfl
theorem seven_cells {α : Type} {cs : List α} (h : cs.length = 7) : ∃ a b c d e f g, cs = [a, b, c, d, e, f, g] := by
  match cs, h with
  | [a, b, c, d, e, f, g], _ => exact ⟨a, b, c, d, e, f, g, rfl⟩
theorem mut_of_trod_b (w : World) (fuel : Nat) (cs : List Value) (x : DataW H × List MemPlace) (hf : DataW.trod enc Try.prog w 0 (fun _ => true) true fuel 64 cs = some x) :
    ∃ m, MutP w (fun q => q < w.heap.size) m cs ∧ SmallV m.2.2 ∧ m.2.1.length ≤ Rows.uptoBulk x.1 := by
  obtain ⟨xs, m, rfl, hx, hl, hxl, hf'⟩ := DataW.trod_struct Try.underlying64 hf
  obtain ⟨e0, e1, e2, e3, e4, e5, e6, rfl⟩ := seven_cells (hl.trans mut_cells)
  obtain ⟨y0, y1, y2, rfl⟩ : ∃ y0 y1 y2, xs = [y0, y1, y2] := by
    match xs, hxl with
    | [a, b, c], _ => exact ⟨a, b, c, rfl⟩
  have f0 := field_at hf' 0 40 0 1 rfl (by kernel_rfl)
  have f1 := field_at hf' 1 9 1 1 rfl (by kernel_rfl)
  have f2 := field_at hf' 2 35 2 5 rfl value_cells
  obtain ⟨q, g0, k0, k1⟩ := int_cell Try.underlying40 f0
  obtain ⟨s, g1, s1, s2⟩ := str_cell_b Try.underlying9 f1
  obtain ⟨t, ht⟩ := val_of_trod w m _ _ f2
  simp at g0 g1 ht
  subst g0; subst g1
  simp [IntKind.min, IntKind.max, IntKind.signed, IntKind.bits] at k0 k1
  have hb : Rows.uptoBulk y1.1 ≤ Rows.uptoBulk x.1 := by
    rw [hx]
    simp only [List.map_cons, List.map_nil, Rows.uptoBulk, Rows.uptoBulkAll]
    omega
  refine ⟨(q.toNat, s, t), ⟨[e2, e3, e4, e5, e6], by rw [Int.toNat_of_nonneg k0]; rfl, by show q.toNat < _; omega, by show s.length ≤ _; unfold maxLen at s1; omega, ht⟩, valAt_small t _ ht, Nat.le_trans s2 hb⟩
theorem ask_cells : Try.prog.cellsOf 89 = 4 := by kernel_rfl
theorem ask_of_Trod {w : World} {v : Value} {d : DataW H} {p : List MemPlace} (h : DataW.Trod enc Try.prog w 0 (fun _ => true) true 89 v d p) :
    ∃ (c : Int) (ks : List (List UInt8)) (since : Nat) (ms : List (Nat × List UInt8 × VT)) (ak : Option Addr) (ck : Nat) (al : Option Addr) (cl : Nat), v = .agg #[.int .i64 c, .slice ak ks.length ck, .int .u64 since, .slice al ms.length cl] ∧ -9223372036854775808 ≤ c ∧ c ≤ 9223372036854775807 ∧ since < 18446744073709551616 ∧ Fits ks.length ck ∧ Fits ms.length cl ∧
      ListAt 1 TextP w (fun q => q < w.heap.size) ak ks ∧ ListAt 7 MutP w (fun q => q < w.heap.size) al ms ∧ (∀ s ∈ ks, s.length ≤ maxLen ∧ s.length ≤ Rows.uptoBulk d) ∧ ∀ x ∈ ms, SmallV x.2.2 ∧ x.2.1.length ≤ Rows.uptoBulk d := by
  obtain ⟨fuel, hf⟩ := h
  obtain ⟨xs, m, rfl, hx, hl, hxl, hf'⟩ := DataW.trod_struct Try.underlying89 hf
  obtain ⟨e0, e1, e2, e3, hcs⟩ := list4 (hl.trans ask_cells)
  rw [hcs] at hf'
  obtain ⟨y0, y1, y2, y3, rfl⟩ := list4 (hxl.trans rfl)
  have f0 := field_at hf' 0 3 0 1 rfl (by kernel_rfl)
  have f1 := field_at hf' 1 32 1 1 rfl (by kernel_rfl)
  have f2 := field_at hf' 2 40 2 1 rfl (by kernel_rfl)
  have f3 := field_at hf' 3 87 3 1 rfl (by kernel_rfl)
  obtain ⟨c, g0, k0, k1⟩ := int_cell Try.underlying3 f0
  obtain ⟨ks, ak, ck, g1, q1, q2, q3, q4⟩ := texts_of_slice_b f1
  obtain ⟨since, g2, k2, k3⟩ := int_cell Try.underlying40 f2
  obtain ⟨al, ll, cl, g3, ll1, cl1, hM⟩ := slice_of_trod_b Try.underlying87 mut_cells (by decide) f3
  simp at g0 g1 g2 g3
  subst g0; subst g1; subst g2; subst g3
  simp [IntKind.min, IntKind.max, IntKind.signed, IntKind.bits] at k0 k1 k2 k3
  simp only [Prod.mk.injEq] at hx
  obtain ⟨hd, _⟩ := hx
  have hb1 : Rows.uptoBulk y1.1 ≤ Rows.uptoBulk d := by
    rw [hd]; simp only [List.map_cons, List.map_nil, Rows.uptoBulk, Rows.uptoBulkAll]; omega
  have hb3 : Rows.uptoBulk y3.1 ≤ Rows.uptoBulk d := by
    rw [hd]; simp only [List.map_cons, List.map_nil, Rows.uptoBulk, Rows.uptoBulkAll]; omega
  have hms : ∃ ms : List (Nat × List UInt8 × VT), ms.length = ll ∧ ListAt 7 MutP w (fun q => q < w.heap.size) al ms ∧ ∀ x ∈ ms, SmallV x.2.2 ∧ x.2.1.length ≤ Rows.uptoBulk d := by
    rcases Nat.eq_zero_or_pos ll with h0 | h0
    · exact ⟨[], by rw [h0]; rfl, ListAt.nil, fun x hx => by cases hx⟩
    · obtain ⟨b, off, n, rfl, hn, hb, hi⟩ := hM h0
      obtain ⟨ms, h1, h2, h3⟩ := rows_of (Pr := MutP) (G := fun q => q < w.heap.size) (Q := fun x => SmallV x.2.2 ∧ x.2.1.length ≤ Rows.uptoBulk d) (w := w) (b := b) (n := 7) ll off (fun i hi' => by
        obtain ⟨cs', y, q1, q2, q3, q4⟩ := hi i hi'
        obtain ⟨mm, r1, r2, r3⟩ := mut_of_trod_b w n cs' y q3
        exact ⟨cs', q1, q2, mm, r1, r2, Nat.le_trans r3 (Nat.le_trans q4 hb3)⟩)
      exact ⟨ms, h1, fun _ => ⟨b, off, rfl, hb, hb, h2⟩, h3⟩
  obtain ⟨ms, rfl, hml, hmq⟩ := hms
  refine ⟨c, ks, since.toNat, ms, ak, ck, al, cl, ?_, k0, k1, by omega, q1, ⟨ll1, cl1⟩, q2, hml, fun s hs => ⟨q3 s hs, Nat.le_trans (q4 s hs) hb1⟩, hmq⟩
  rw [Int.toNat_of_nonneg k2]
  exact agg_of_cells hcs (by simp)
end
end Go.Proofs.Ytoojnpafcdaflaa
namespace Go.Proofs.Ytoojnpafcdaflaa
open Go Go.RowKit
set_option linter.unusedVariables false
set_option linter.unusedSimpArgs false
set_option maxRecDepth 100000
section
variable {H : Type} {enc : TypeId × Value → H}
theorem ent_of_trod_b (w : World) (fuel : Nat) (cs : List Value) (x : DataW H × List MemPlace) (hf : DataW.trod enc Try.prog w 0 (fun _ => true) true fuel 69 cs = some x) :
    ∃ m, EntP w (fun q => q < w.heap.size) m cs ∧ SmallV (objV m.2.2.1 m.2.2.2) ∧ m.1.length + m.2.1.length ≤ Rows.uptoBulk x.1 := by
  have hf0 := hf
  obtain ⟨xs, m, rfl, hx, hl, hxl, hf'⟩ := DataW.trod_struct Try.underlying69 hf
  obtain ⟨e0, e1, e2, e3, rfl⟩ := list4 (hl.trans ent_cells)
  obtain ⟨y0, y1, y2, y3, rfl⟩ := list4 (hxl.trans rfl)
  have f0 := field_at hf' 0 9 0 1 rfl (by kernel_rfl)
  have f1 := field_at hf' 1 9 1 1 rfl (by kernel_rfl)
  obtain ⟨ty1, g0, _, s0⟩ := str_cell_b Try.underlying9 f0
  obtain ⟨id1, g1, _, s1⟩ := str_cell_b Try.underlying9 f1
  obtain ⟨ty, id, ks, vs, ak, av, ck, cv, he, h1, h2, h3⟩ := ent_of_trod w _ _ _ hf0
  simp at g0 g1
  simp only [List.cons.injEq, and_true] at he
  obtain ⟨rfl, rfl, rfl, rfl⟩ := he
  have et : ty1 = ty := by
    have := g0.symm
    unfold strV at this
    simpa using this
  have ei : id1 = id := by
    have := g1.symm
    unfold strV at this
    simpa using this
  subst et; subst ei
  have hb : Rows.uptoBulk y0.1 + Rows.uptoBulk y1.1 ≤ Rows.uptoBulk x.1 := by
    rw [hx]
    simp only [List.map_cons, List.map_nil, Rows.uptoBulk, Rows.uptoBulkAll]
    omega
  exact ⟨(ty1, id1, ks, vs), ⟨ak, av, ck, cv, rfl, h1, h2, h3⟩, valAt_small _ _ h3, by show ty1.length + id1.length ≤ _; omega⟩
theorem tell_cells : Try.prog.cellsOf 83 = 7 := by kernel_rfl
theorem delta_cells : Try.prog.cellsOf 81 = 5 := by kernel_rfl
theorem len_bulk (l : List (DataW H)) : l.length ≤ Rows.uptoBulkAll l := by
  induction l with
  | nil => simp
  | cons x r ih => simp only [Rows.uptoBulkAll, List.length_cons]; have := bulk_one x; omega
theorem slice_len_b {P : Program} {w : World} {t e : TypeId} {fuel : Nat} {cs : List Value} {x : DataW H × List MemPlace} (ht : P.underlying t = some (.slice e)) (h : DataW.trod enc P w 0 (fun _ => true) true fuel t cs = some x) {a : Option Addr} {len cap : Nat} (hc : cs = [.slice a len cap]) : len ≤ Rows.uptoBulk x.1 := by
  rcases DataW.trod_slice ht h with ⟨rfl, _⟩ | ⟨a', len', cap', elems, rest, n, hn, rfl, hx, hb, hl, hm, hlen, hel, _, _⟩
  · simp only [List.cons.injEq, and_true] at hc
    injection hc with _ h2 _
    omega
  · simp only [List.cons.injEq, and_true] at hc
    injection hc with _ h2 _
    have h1 := len_bulk (elems.map (·.1))
    rw [List.length_map] at h1
    rw [hx]
    simp only [Rows.uptoBulk]
    omega
theorem tell_of_Trod {w : World} {v : Value} {d : DataW H} {p : List MemPlace} (h : DataW.Trod enc Try.prog w 0 (fun _ => true) true 83 v d p) :
    ∃ (c : Int) (done : Nat) (ks : List (List UInt8)) (since ver : Nat) (xs : List (List UInt8 × List UInt8 × List (List UInt8) × List VT)) (gs : List (List UInt8)) (ak : Option Addr) (ck : Nat) (ax : Option Addr) (cx : Nat) (ag : Option Addr) (cg : Nat),
      v = .agg #[.int .i64 c, .int .u64 done, .slice ak ks.length ck, .int .u64 since, .int .u64 ver, .slice ax xs.length cx, .slice ag gs.length cg] ∧ -9223372036854775808 ≤ c ∧ c ≤ 9223372036854775807 ∧ done < 18446744073709551616 ∧ since < 18446744073709551616 ∧ ver < 18446744073709551616 ∧ Fits ks.length ck ∧ Fits xs.length cx ∧ Fits gs.length cg ∧
      ListAt 1 TextP w (fun q => q < w.heap.size) ak ks ∧ ListAt 4 EntP w (fun q => q < w.heap.size) ax xs ∧ ListAt 1 TextP w (fun q => q < w.heap.size) ag gs ∧ (∀ s ∈ ks, s.length ≤ Rows.uptoBulk d) ∧ (∀ s ∈ gs, s.length ≤ Rows.uptoBulk d) ∧ (∀ x ∈ xs, SmallV (objV x.2.2.1 x.2.2.2) ∧ x.1.length + x.2.1.length ≤ Rows.uptoBulk d) ∧ ks.length ≤ Rows.uptoBulk d ∧ gs.length ≤ Rows.uptoBulk d := by
  obtain ⟨fuel, hf⟩ := h
  obtain ⟨xs0, m, rfl, hx, hl, hxl, hf'⟩ := DataW.trod_struct Try.underlying83 hf
  obtain ⟨e0, e1, e2, e3, e4, e5, e6, hcs⟩ := seven_cells (hl.trans tell_cells)
  rw [hcs] at hf'
  obtain ⟨y0, y1, y2, rfl⟩ : ∃ y0 y1 y2, xs0 = [y0, y1, y2] := by
    match xs0, hxl with
    | [a, b, c], _ => exact ⟨a, b, c, rfl⟩
  have f0 := field_at hf' 0 3 0 1 rfl (by kernel_rfl)
  have f1 := field_at hf' 1 40 1 1 rfl (by kernel_rfl)
  have f2 := field_at hf' 2 81 2 5 rfl delta_cells
  obtain ⟨c, g0, k0, k1⟩ := int_cell Try.underlying3 f0
  obtain ⟨done, g1, k2, k3⟩ := int_cell Try.underlying40 f1
  simp only [List.drop_succ_cons, List.drop_zero] at f2
  have f2 : DataW.trod enc Try.prog w 0 (fun _ => true) true m 81 [e2, e3, e4, e5, e6] = some y2 := f2
  obtain ⟨zs, m2, rfl, hy, hl2, hzl, hg'⟩ := DataW.trod_struct Try.underlying81 f2
  obtain ⟨u0, u1, u2, u3, u4, rfl⟩ := list5 (hzl.trans rfl)
  have d0 := field_at hg' 0 32 0 1 rfl (by kernel_rfl)
  have d1 := field_at hg' 1 40 1 1 rfl (by kernel_rfl)
  have d2 := field_at hg' 2 40 2 1 rfl (by kernel_rfl)
  have d3 := field_at hg' 3 79 3 1 rfl (by kernel_rfl)
  have d4 := field_at hg' 4 32 4 1 rfl (by kernel_rfl)
  obtain ⟨ks, ak, ck, j0, q1, q2, q3, q4⟩ := texts_of_slice_b d0
  obtain ⟨since, j1, k4, k5⟩ := int_cell Try.underlying40 d1
  obtain ⟨ver, j2, k6, k7⟩ := int_cell Try.underlying40 d2
  obtain ⟨ax, lx, cx, j3, lx1, cx1, hM⟩ := slice_of_trod_b Try.underlying79 ent_cells (by decide) d3
  obtain ⟨gs, ag, cg, j4, r1, r2, r3, r4⟩ := texts_of_slice_b d4
  have l0 := slice_len_b Try.underlying32 d0 j0
  have l4 := slice_len_b Try.underlying32 d4 j4
  simp at g0 g1 j0 j1 j2 j3 j4
  subst g0; subst g1; subst j0; subst j1; subst j2; subst j3; subst j4
  simp [IntKind.min, IntKind.max, IntKind.signed, IntKind.bits] at k0 k1 k2 k3 k4 k5 k6 k7
  simp only [Prod.mk.injEq] at hx
  obtain ⟨hd, _⟩ := hx
  have hy1 : Rows.uptoBulk y2.1 ≤ Rows.uptoBulk d := by
    rw [hd]; simp only [List.map_cons, List.map_nil, Rows.uptoBulk, Rows.uptoBulkAll]; omega
  have hb : Rows.uptoBulk u0.1 ≤ Rows.uptoBulk d ∧ Rows.uptoBulk u3.1 ≤ Rows.uptoBulk d ∧ Rows.uptoBulk u4.1 ≤ Rows.uptoBulk d := by
    rw [hy] at hy1
    simp only [List.map_cons, List.map_nil, Rows.uptoBulk, Rows.uptoBulkAll] at hy1
    omega
  have hms : ∃ xs : List (List UInt8 × List UInt8 × List (List UInt8) × List VT), xs.length = lx ∧ ListAt 4 EntP w (fun q => q < w.heap.size) ax xs ∧ ∀ x ∈ xs, SmallV (objV x.2.2.1 x.2.2.2) ∧ x.1.length + x.2.1.length ≤ Rows.uptoBulk d := by
    rcases Nat.eq_zero_or_pos lx with h0 | h0
    · exact ⟨[], by rw [h0]; rfl, ListAt.nil, fun x hx => by cases hx⟩
    · obtain ⟨b, off, n, rfl, hn, hb', hi⟩ := hM h0
      obtain ⟨xs, h1, h2, h3⟩ := rows_of (Pr := EntP) (G := fun q => q < w.heap.size) (Q := fun x => SmallV (objV x.2.2.1 x.2.2.2) ∧ x.1.length + x.2.1.length ≤ Rows.uptoBulk d) (w := w) (b := b) (n := 4) lx off (fun i hi' => by
        obtain ⟨cs', y, q1, q2, q3, q4⟩ := hi i hi'
        obtain ⟨mm, r1, r2, r3⟩ := ent_of_trod_b w n cs' y q3
        exact ⟨cs', q1, q2, mm, r1, r2, Nat.le_trans r3 (Nat.le_trans q4 hb.2.1)⟩)
      exact ⟨xs, h1, fun _ => ⟨b, off, rfl, hb', hb', h2⟩, h3⟩
  obtain ⟨xs, rfl, hml, hmq⟩ := hms
  refine ⟨c, done.toNat, ks, since.toNat, ver.toNat, xs, gs, ak, ck, ax, cx, ag, cg, ?_, k0, k1, by omega, by omega, by omega, q1, ⟨lx1, cx1⟩, r1, q2, hml, r2, fun s hs => Nat.le_trans (q4 s hs) hb.1, fun s hs => Nat.le_trans (r4 s hs) hb.2.2, hmq, Nat.le_trans l0 hb.1, Nat.le_trans l4 hb.2.2⟩
  rw [Int.toNat_of_nonneg k2, Int.toNat_of_nonneg k4, Int.toNat_of_nonneg k6]
  exact agg_of_cells hcs (by simp)
end
end Go.Proofs.Ytoojnpafcdaflaa
namespace Go.Proofs.Ytoojnpafcdaflaa
open Go Go.RowKit
set_option linter.unusedVariables false
set_option linter.unusedSimpArgs false
set_option maxRecDepth 100000

set_option maxHeartbeats 8000000 in
theorem wEncTellB (t : TellV) (G : Nat → Prop) (w : World) (cs : List Value) (h : TellAt w G t cs) (hG : ∀ q, G q → q < w.heap.size) (hE : ∀ x ∈ t.xs, GoodV (objV x.2.2.1 x.2.2.2) ∧ (encV (objV x.2.2.1 x.2.2.2)).length ≤ 1000000 ∧ x.1.length ≤ 100000000 ∧ x.2.1.length ≤ 100000000)
    (hk : t.ks.length ≤ 1000000 ∧ t.xs.length ≤ 1000000 ∧ t.gs.length ≤ 1000000) (hl : (encTell t).length ≤ 900000000) :
    Calls Try.prog 51 #[.agg cs.toArray] w (Makes w (sealed (encTell t))) := by
  obtain ⟨c, done, ks, since, ver, xs, gs⟩ := t
  obtain ⟨ak, ck, ax, cx, ag, cg, rfl, h1, h2, h3, h4, h5, h6, h7, h8, h9, h10⟩ := h
  simp only at h1 h2 h3 h4 h5 h6 h7 h8 h9 h10 hE hk ⊢
  obtain ⟨hk1, hk2, hk3⟩ := hk
  obtain ⟨wb, hwb, ob, hsz, hws, hbx⟩ := tbox w (.int .i64 c) (.int .u64 done) (.slice ak ks.length ck) (.int .u64 since) (.int .u64 ver) (.slice ax xs.length cx) (.slice ag gs.length cg)
  have hlens : (encU 2).length + (encU c).length + (encU done).length + (encQ encT ks).length + (encU since).length + (encU ver).length + (encU xs.length).length + (encF encE1 xs).length + (encQ encT gs).length = (encTell ⟨c, done, ks, since, ver, xs, gs⟩).length := by
    unfold encTell
    simp only [List.length_append]
    rw [show (encQ encE1 xs).length = (encU xs.length).length + (encF encE1 xs).length from by unfold encQ; rw [List.length_append]]
    omega
  rw [← hlens] at hl
  have hfull : encTell ⟨c, done, ks, since, ver, xs, gs⟩ = encU 2 ++ encU c ++ encU done ++ encQ encT ks ++ encU since ++ encU ver ++ encU xs.length ++ encF encE1 xs ++ encQ encT gs := by
    unfold encTell encQ
    simp only [List.append_assoc]
  rw [hfull]
  clear hlens hfull
  have hkeep : ∀ l' w', WS (fun q => q = w.heap.size + 1) (w.heap.size + 1) wb l' w' → w'.heap[w.heap.size]? = some (.cells #[.int .i64 c, .int .u64 done, .slice ak ks.length ck, .int .u64 since, .int .u64 ver, .slice ax xs.length cx, .slice ag gs.length cg] 83 (0, 0)) ∧ ListAt 1 TextP w' G ak ks ∧ ListAt 4 EntP w' G ax xs ∧ ListAt 1 TextP w' G ag gs := fun l' w' hw => by
    have ho := ob.mono (T := fun q => q = w.heap.size + 1) (fun _ _ h => h.elim) |>.trans hw.only
    have hS : ∀ q, G q → ¬ (q = w.heap.size + 1) := fun q hq => by have := hG q hq; omega
    exact ⟨hbx _ w' hw.only (by omega), h8.only textP_keeps ho hS, h9.only entP_keeps ho hS, h10.only textP_keeps ho hS⟩
  have hGF : ∀ q, G q → q < wb.heap.size ∧ ¬ (q = w.heap.size + 1) := fun q hq => by have := hG q hq; omega
  have hcells := fun l' w' hw => box7 (hkeep l' w' hw).1
  obtain ⟨n, hn⟩ : ∃ n, n = xs.length := ⟨_, rfl⟩
  unfold Fits maxLen at h5 h6 h7
  have b1 : (0 : Int) ≤ (c : Int) := by omega
  have b2 : (c : Int) ≤ 9223372036854775807 := by omega
  have b3 : (0 : Int) ≤ (n : Int) := by omega
  have b4 : (n : Int) ≤ 1000000 := by omega
  have g0 := hcells _ _ hws
  rw [hwb] at g0
  have hwsd : WS (fun q => q = w.heap.size + 1) (w.heap.size + 1) wb [] wb.drew := hws.still (Only.refl _ _).drew
  have hgood : ∀ i (h : i < xs.length), GoodV (objV xs[i].2.2.1 xs[i].2.2.2) ∧ (encV (objV xs[i].2.2.1 xs[i].2.2.2)).length ≤ 1000000 ∧ xs[i].1.length ≤ 100000000 ∧ xs[i].2.1.length ≤ 100000000 := fun i h => hE _ (List.getElem_mem _)
  rw [← hn] at hl hcells hkeep g0 hwb ⊢
  have h2' := h2; have h3' := h3; have h4' := h4
  have HC := Lib.hid hcells; have HKEEP := Lib.hid hkeep; have HGF := Lib.hid hGF; have HWB := Lib.hid hwb; have OB := Lib.hid ob; have HSZ := Lib.hid hsz; have HW0 := Lib.hid hwsd; have HGOOD := Lib.hid hgood; have HL := Lib.hid hl; have HN := Lib.hid hn; have B1 := Lib.hid h1; have B2 := Lib.hid h2; have B3 := Lib.hid h3; have B4 := Lib.hid h4; have HK1 := Lib.hid hk1; have HK2 := Lib.hid hk2; have HK3 := Lib.hid hk3
  clear hcells hkeep hGF hwb ob hsz hwsd hgood hl hn hws hbx hE h1 h2 h3 h4 h5 h6 h7 h8 h9 h10 hG hk1 hk2 hk3 h2' h3' h4'
  go_enter Try.func51, Try.ntmps51
  go_wp2_with fail
  rw [← HWB.out] at g0 ⊢
  obtain ⟨c0, c1, c2, c3, c4, c5, c6⟩ := g0
  clear c0 c1 c2 c3 c4 c5 c6
  refine wp_region_chain 8 (by kernel_rfl) rfl (by kernel_rfl) [some 8, some 9, some 10, some 11, some 12, some 13, some 14, some 15] rfl rfl [1, 5] [none, some 0, none, none, none, some 1, none, none] (by kernel_rfl) (fun t => match t with | 0 => (fun w' => WS (fun q => q = w.heap.size + 1) (w.heap.size + 1) wb ([]) w') | 1 => (fun w' => WS (fun q => q = w.heap.size + 1) (w.heap.size + 1) wb (encU 2) w') | _ + 2 => (fun w' => WS (fun q => q = w.heap.size + 1) (w.heap.size + 1) wb (encU 2 ++ encU c) w') : Nat → World → Prop) (fun w' => w'.cell? ⟨w.heap.size, 0, none⟩ = some (.int .i64 c) ∧ w'.cell? ⟨w.heap.size, 1, none⟩ = some (.int .u64 done) ∧ w'.cell? ⟨w.heap.size, 2, none⟩ = some (.slice ak ks.length ck) ∧ w'.cell? ⟨w.heap.size, 2 + 1, none⟩ = some (.int .u64 since) ∧ w'.cell? ⟨w.heap.size, 2 + 2, none⟩ = some (.int .u64 ver) ∧ w'.cell? ⟨w.heap.size, 2 + 3, none⟩ = some (.slice ax n cx) ∧ w'.cell? ⟨w.heap.size, 2 + 4, none⟩ = some (.slice ag gs.length cg)) (fun t => match t with | 0 => fun w' _ hs => HC.out _ _ hs | 1 => fun w' _ hs => HC.out _ _ hs | _ + 2 => fun w' _ hs => HC.out _ _ hs) (HW0.out) [(fun v => v = (.pointer (some ⟨w.heap.size + 1, 0, none⟩))), (fun v => v = (.pointer (some ⟨w.heap.size + 1, 0, none⟩))), (fun v => v = (.pointer (some ⟨w.heap.size, 0, none⟩))), (fun v => v = (.int .i64 c)), (fun v => v = (.int .u64 c)), (fun v => v = (.pointer (some ⟨w.heap.size + 1, 0, none⟩))), (fun v => v = (.pointer (some ⟨w.heap.size, 1, none⟩))), (fun v => v = (.int .u64 done))] rfl _ rfl ⟨?_, ?_, ?_, ?_, ?_, ?_, ?_, ?_, trivial⟩ ?_
  · intro x wx hkx hN TT HTT
    have hkx : (fun w' => w'.cell? ⟨w.heap.size, 0, none⟩ = some (.int .i64 c) ∧ w'.cell? ⟨w.heap.size, 1, none⟩ = some (.int .u64 done) ∧ w'.cell? ⟨w.heap.size, 2, none⟩ = some (.slice ak ks.length ck) ∧ w'.cell? ⟨w.heap.size, 2 + 1, none⟩ = some (.int .u64 since) ∧ w'.cell? ⟨w.heap.size, 2 + 2, none⟩ = some (.int .u64 ver) ∧ w'.cell? ⟨w.heap.size, 2 + 3, none⟩ = some (.slice ax n cx) ∧ w'.cell? ⟨w.heap.size, 2 + 4, none⟩ = some (.slice ag gs.length cg)) wx := hkx
    clear hN
    unfold StepTo
    simp only [putAll, Act.put, List.setIfInBounds_toArray, List.set_cons_succ, List.set_cons_zero]
    go_wp2_with fail
    exact ⟨rfl, _, rfl, HTT.out _ (rfl)⟩
  · intro x wx hst hN TT HTT
    have hst : (fun w' => WS (fun q => q = w.heap.size + 1) (w.heap.size + 1) wb ([]) w') wx := hst
    have r8 : x 0 = (.pointer (some ⟨w.heap.size + 1, 0, none⟩)) := hN.1 rfl
    clear hN
    unfold StepTo
    simp only [putAll, Act.put, List.setIfInBounds_toArray, List.set_cons_succ, List.set_cons_zero, r8]
    clear r8
    go_wp2_with fail
    refine (wUint_s 2 _ _ _ [] _ hst (by decide) (by simp)).mono ?_
    rintro e w7 ⟨rfl, hU1⟩
    rw [List.nil_append] at hU1
    go_wp2_with fail
    exact ⟨rfl, _, rfl, HTT.out _ _ (rfl) (hU1)⟩
  · intro x wx hkx hN TT HTT
    have hkx : (fun w' => w'.cell? ⟨w.heap.size, 0, none⟩ = some (.int .i64 c) ∧ w'.cell? ⟨w.heap.size, 1, none⟩ = some (.int .u64 done) ∧ w'.cell? ⟨w.heap.size, 2, none⟩ = some (.slice ak ks.length ck) ∧ w'.cell? ⟨w.heap.size, 2 + 1, none⟩ = some (.int .u64 since) ∧ w'.cell? ⟨w.heap.size, 2 + 2, none⟩ = some (.int .u64 ver) ∧ w'.cell? ⟨w.heap.size, 2 + 3, none⟩ = some (.slice ax n cx) ∧ w'.cell? ⟨w.heap.size, 2 + 4, none⟩ = some (.slice ag gs.length cg)) wx := hkx
    clear hN
    unfold StepTo
    simp only [putAll, Act.put, List.setIfInBounds_toArray, List.set_cons_succ, List.set_cons_zero]
    go_wp2_with fail
    exact ⟨rfl, _, rfl, HTT.out _ (rfl)⟩
  · intro x wx hkx hN TT HTT
    have hkx : (fun w' => w'.cell? ⟨w.heap.size, 0, none⟩ = some (.int .i64 c) ∧ w'.cell? ⟨w.heap.size, 1, none⟩ = some (.int .u64 done) ∧ w'.cell? ⟨w.heap.size, 2, none⟩ = some (.slice ak ks.length ck) ∧ w'.cell? ⟨w.heap.size, 2 + 1, none⟩ = some (.int .u64 since) ∧ w'.cell? ⟨w.heap.size, 2 + 2, none⟩ = some (.int .u64 ver) ∧ w'.cell? ⟨w.heap.size, 2 + 3, none⟩ = some (.slice ax n cx) ∧ w'.cell? ⟨w.heap.size, 2 + 4, none⟩ = some (.slice ag gs.length cg)) wx := hkx
    have r10 : x 2 = (.pointer (some ⟨w.heap.size, 0, none⟩)) := hN.1 rfl
    clear hN
    unfold StepTo
    simp only [putAll, Act.put, List.setIfInBounds_toArray, List.set_cons_succ, List.set_cons_zero, r10]
    clear r10
    obtain ⟨c0, c1, c2, c3, c4, c5, c6⟩ := hkx
    go_wp2_with fail
    exact ⟨rfl, _, rfl, HTT.out _ (rfl)⟩
  · intro x wx hkx hN TT HTT
    have hkx : (fun w' => w'.cell? ⟨w.heap.size, 0, none⟩ = some (.int .i64 c) ∧ w'.cell? ⟨w.heap.size, 1, none⟩ = some (.int .u64 done) ∧ w'.cell? ⟨w.heap.size, 2, none⟩ = some (.slice ak ks.length ck) ∧ w'.cell? ⟨w.heap.size, 2 + 1, none⟩ = some (.int .u64 since) ∧ w'.cell? ⟨w.heap.size, 2 + 2, none⟩ = some (.int .u64 ver) ∧ w'.cell? ⟨w.heap.size, 2 + 3, none⟩ = some (.slice ax n cx) ∧ w'.cell? ⟨w.heap.size, 2 + 4, none⟩ = some (.slice ag gs.length cg)) wx := hkx
    have r11 : x 3 = (.int .i64 c) := hN.1 rfl
    clear hN
    unfold StepTo
    simp only [putAll, Act.put, List.setIfInBounds_toArray, List.set_cons_succ, List.set_cons_zero, r11]
    clear r11
    go_wp2_with fail
    exact ⟨rfl, _, rfl, HTT.out _ (rfl)⟩
  · intro x wx hst hN TT HTT
    have hst : (fun w' => WS (fun q => q = w.heap.size + 1) (w.heap.size + 1) wb (encU 2) w') wx := hst
    have r9 : x 1 = (.pointer (some ⟨w.heap.size + 1, 0, none⟩)) := hN.1 rfl
    have r12 : x 4 = (.int .u64 c) := hN.2.1 rfl
    clear hN
    unfold StepTo
    simp only [putAll, Act.put, List.setIfInBounds_toArray, List.set_cons_succ, List.set_cons_zero, r9, r12]
    clear r9 r12
    go_wp2_with fail
    refine (wUint_s c _ _ _ (encU 2) _ hst (by have := B1.out; omega) (by have := HL.out; omega)).mono ?_
    rintro e w7 ⟨rfl, hU1⟩
    go_wp2_with fail
    exact ⟨rfl, _, rfl, HTT.out _ _ (rfl) (hU1)⟩
  · intro x wx hkx hN TT HTT
    have hkx : (fun w' => w'.cell? ⟨w.heap.size, 0, none⟩ = some (.int .i64 c) ∧ w'.cell? ⟨w.heap.size, 1, none⟩ = some (.int .u64 done) ∧ w'.cell? ⟨w.heap.size, 2, none⟩ = some (.slice ak ks.length ck) ∧ w'.cell? ⟨w.heap.size, 2 + 1, none⟩ = some (.int .u64 since) ∧ w'.cell? ⟨w.heap.size, 2 + 2, none⟩ = some (.int .u64 ver) ∧ w'.cell? ⟨w.heap.size, 2 + 3, none⟩ = some (.slice ax n cx) ∧ w'.cell? ⟨w.heap.size, 2 + 4, none⟩ = some (.slice ag gs.length cg)) wx := hkx
    clear hN
    unfold StepTo
    simp only [putAll, Act.put, List.setIfInBounds_toArray, List.set_cons_succ, List.set_cons_zero]
    go_wp2_with fail
    exact ⟨rfl, _, rfl, HTT.out _ (rfl)⟩
  · intro x wx hkx hN TT HTT
    have hkx : (fun w' => w'.cell? ⟨w.heap.size, 0, none⟩ = some (.int .i64 c) ∧ w'.cell? ⟨w.heap.size, 1, none⟩ = some (.int .u64 done) ∧ w'.cell? ⟨w.heap.size, 2, none⟩ = some (.slice ak ks.length ck) ∧ w'.cell? ⟨w.heap.size, 2 + 1, none⟩ = some (.int .u64 since) ∧ w'.cell? ⟨w.heap.size, 2 + 2, none⟩ = some (.int .u64 ver) ∧ w'.cell? ⟨w.heap.size, 2 + 3, none⟩ = some (.slice ax n cx) ∧ w'.cell? ⟨w.heap.size, 2 + 4, none⟩ = some (.slice ag gs.length cg)) wx := hkx
    have r14 : x 6 = (.pointer (some ⟨w.heap.size, 1, none⟩)) := hN.1 rfl
    clear hN
    unfold StepTo
    simp only [putAll, Act.put, List.setIfInBounds_toArray, List.set_cons_succ, List.set_cons_zero, r14]
    clear r14
    obtain ⟨c0, c1, c2, c3, c4, c5, c6⟩ := hkx
    go_wp2_with fail
    exact ⟨rfl, _, rfl, HTT.out _ (rfl)⟩
  intro xa wxa hsta hN
  have hsta : (fun w' => WS (fun q => q = w.heap.size + 1) (w.heap.size + 1) wb (encU 2 ++ encU c) w') wxa := hsta
  have r8 : xa 0 = (.pointer (some ⟨w.heap.size + 1, 0, none⟩)) := hN.1
  have r9 : xa 1 = (.pointer (some ⟨w.heap.size + 1, 0, none⟩)) := hN.2.1
  have r10 : xa 2 = (.pointer (some ⟨w.heap.size, 0, none⟩)) := hN.2.2.1
  have r11 : xa 3 = (.int .i64 c) := hN.2.2.2.1
  have r12 : xa 4 = (.int .u64 c) := hN.2.2.2.2.1
  have r13 : xa 5 = (.pointer (some ⟨w.heap.size + 1, 0, none⟩)) := hN.2.2.2.2.2.1
  have r14 : xa 6 = (.pointer (some ⟨w.heap.size, 1, none⟩)) := hN.2.2.2.2.2.2.1
  have r15 : xa 7 = (.int .u64 done) := hN.2.2.2.2.2.2.2.1
  clear hN
  simp only [putAll, Act.put, List.setIfInBounds_toArray, List.set_cons_succ, List.set_cons_zero, r8, r9, r10, r11, r12, r13, r14, r15]
  clear r8 r9 r10 r11 r12 r13 r14 r15
  go_wp2_with fail
  refine (wUint_s done _ _ _ (encU 2 ++ encU c) _ hsta B2.out (by have := HL.out; simp only [List.length_append]; omega)).mono ?_
  rintro e w3 ⟨rfl, h3⟩
  obtain ⟨c0, c1, c2, c3, c4, c5, c6⟩ := HC.out _ _ h3
  have ht := wTexts ks ak ck _ G _ _ _ _ h3 (HKEEP.out _ _ h3).2.1 HGF.out HK1.out (by have := HL.out; simp only [List.length_append]; omega)
  have HT := Lib.hid ht; clear ht h3 hsta
  go_wp2_with fail
  refine HT.out.mono ?_
  rintro e w4 ⟨rfl, h4⟩
  have h4d := h4.still (Only.refl (fun _ => False) w4).drew
  have H4 := Lib.hid h4d; clear h4d h4 c0 c1 c2 c3 c4 c5 c6
  go_wp2_with fail
  refine wp_region_chain 14 (by kernel_rfl) rfl (by kernel_rfl) [some 22, some 23, some 24, some 25, some 26, some 27, some 28, some 29, some 30, some 31, some 32, some 33, some 34, some 35] rfl rfl [4, 8] [none, none, none, none, some 0, none, none, none, some 1, none, none, none, none, none] (by kernel_rfl) (fun t => match t with | 0 => (fun w' => WS (fun q => q = w.heap.size + 1) (w.heap.size + 1) wb (encU 2 ++ encU c ++ encU done ++ encQ encT ks) w') | 1 => (fun w' => WS (fun q => q = w.heap.size + 1) (w.heap.size + 1) wb (encU 2 ++ encU c ++ encU done ++ encQ encT ks ++ encU since) w') | _ + 2 => (fun w' => WS (fun q => q = w.heap.size + 1) (w.heap.size + 1) wb (encU 2 ++ encU c ++ encU done ++ encQ encT ks ++ encU since ++ encU ver) w') : Nat → World → Prop) (fun w' => w'.cell? ⟨w.heap.size, 0, none⟩ = some (.int .i64 c) ∧ w'.cell? ⟨w.heap.size, 1, none⟩ = some (.int .u64 done) ∧ w'.cell? ⟨w.heap.size, 2, none⟩ = some (.slice ak ks.length ck) ∧ w'.cell? ⟨w.heap.size, 2 + 1, none⟩ = some (.int .u64 since) ∧ w'.cell? ⟨w.heap.size, 2 + 2, none⟩ = some (.int .u64 ver) ∧ w'.cell? ⟨w.heap.size, 2 + 3, none⟩ = some (.slice ax n cx) ∧ w'.cell? ⟨w.heap.size, 2 + 4, none⟩ = some (.slice ag gs.length cg)) (fun t => match t with | 0 => fun w' _ hs => HC.out _ _ hs | 1 => fun w' _ hs => HC.out _ _ hs | _ + 2 => fun w' _ hs => HC.out _ _ hs) (H4.out) [(fun v => v = (.pointer (some ⟨w.heap.size + 1, 0, none⟩))), (fun v => v = (.pointer (some ⟨w.heap.size, 2, none⟩))), (fun v => v = (.pointer (some ⟨w.heap.size, 2 + 1, none⟩))), (fun v => v = (.int .u64 since)), (fun v => v = (.pointer (some ⟨w.heap.size + 1, 0, none⟩))), (fun v => v = (.pointer (some ⟨w.heap.size, 2, none⟩))), (fun v => v = (.pointer (some ⟨w.heap.size, 2 + 2, none⟩))), (fun v => v = (.int .u64 ver)), (fun v => v = (.pointer (some ⟨w.heap.size + 1, 0, none⟩))), (fun v => v = (.pointer (some ⟨w.heap.size, 2, none⟩))), (fun v => v = (.pointer (some ⟨w.heap.size, 2 + 3, none⟩))), (fun v => v = (.slice ax n cx)), (fun v => v = (.int .i64 n)), (fun v => v = (.int .u64 n))] rfl _ rfl ⟨?_, ?_, ?_, ?_, ?_, ?_, ?_, ?_, ?_, ?_, ?_, ?_, ?_, ?_, trivial⟩ ?_
  · intro x wx hkx hN TT HTT
    have hkx : (fun w' => w'.cell? ⟨w.heap.size, 0, none⟩ = some (.int .i64 c) ∧ w'.cell? ⟨w.heap.size, 1, none⟩ = some (.int .u64 done) ∧ w'.cell? ⟨w.heap.size, 2, none⟩ = some (.slice ak ks.length ck) ∧ w'.cell? ⟨w.heap.size, 2 + 1, none⟩ = some (.int .u64 since) ∧ w'.cell? ⟨w.heap.size, 2 + 2, none⟩ = some (.int .u64 ver) ∧ w'.cell? ⟨w.heap.size, 2 + 3, none⟩ = some (.slice ax n cx) ∧ w'.cell? ⟨w.heap.size, 2 + 4, none⟩ = some (.slice ag gs.length cg)) wx := hkx
    clear hN
    unfold StepTo
    simp only [putAll, Act.put, List.setIfInBounds_toArray, List.set_cons_succ, List.set_cons_zero]
    go_wp2_with fail
    exact ⟨rfl, _, rfl, HTT.out _ (rfl)⟩
  · intro x wx hkx hN TT HTT
    have hkx : (fun w' => w'.cell? ⟨w.heap.size, 0, none⟩ = some (.int .i64 c) ∧ w'.cell? ⟨w.heap.size, 1, none⟩ = some (.int .u64 done) ∧ w'.cell? ⟨w.heap.size, 2, none⟩ = some (.slice ak ks.length ck) ∧ w'.cell? ⟨w.heap.size, 2 + 1, none⟩ = some (.int .u64 since) ∧ w'.cell? ⟨w.heap.size, 2 + 2, none⟩ = some (.int .u64 ver) ∧ w'.cell? ⟨w.heap.size, 2 + 3, none⟩ = some (.slice ax n cx) ∧ w'.cell? ⟨w.heap.size, 2 + 4, none⟩ = some (.slice ag gs.length cg)) wx := hkx
    clear hN
    unfold StepTo
    simp only [putAll, Act.put, List.setIfInBounds_toArray, List.set_cons_succ, List.set_cons_zero]
    go_wp2_with fail
    exact ⟨rfl, _, rfl, HTT.out _ (rfl)⟩
  · intro x wx hkx hN TT HTT
    have hkx : (fun w' => w'.cell? ⟨w.heap.size, 0, none⟩ = some (.int .i64 c) ∧ w'.cell? ⟨w.heap.size, 1, none⟩ = some (.int .u64 done) ∧ w'.cell? ⟨w.heap.size, 2, none⟩ = some (.slice ak ks.length ck) ∧ w'.cell? ⟨w.heap.size, 2 + 1, none⟩ = some (.int .u64 since) ∧ w'.cell? ⟨w.heap.size, 2 + 2, none⟩ = some (.int .u64 ver) ∧ w'.cell? ⟨w.heap.size, 2 + 3, none⟩ = some (.slice ax n cx) ∧ w'.cell? ⟨w.heap.size, 2 + 4, none⟩ = some (.slice ag gs.length cg)) wx := hkx
    have r23 : x 1 = (.pointer (some ⟨w.heap.size, 2, none⟩)) := hN.1 rfl
    clear hN
    unfold StepTo
    simp only [putAll, Act.put, List.setIfInBounds_toArray, List.set_cons_succ, List.set_cons_zero, r23]
    clear r23
    go_wp2_with fail
    exact ⟨rfl, _, rfl, HTT.out _ (rfl)⟩
  · intro x wx hkx hN TT HTT
    have hkx : (fun w' => w'.cell? ⟨w.heap.size, 0, none⟩ = some (.int .i64 c) ∧ w'.cell? ⟨w.heap.size, 1, none⟩ = some (.int .u64 done) ∧ w'.cell? ⟨w.heap.size, 2, none⟩ = some (.slice ak ks.length ck) ∧ w'.cell? ⟨w.heap.size, 2 + 1, none⟩ = some (.int .u64 since) ∧ w'.cell? ⟨w.heap.size, 2 + 2, none⟩ = some (.int .u64 ver) ∧ w'.cell? ⟨w.heap.size, 2 + 3, none⟩ = some (.slice ax n cx) ∧ w'.cell? ⟨w.heap.size, 2 + 4, none⟩ = some (.slice ag gs.length cg)) wx := hkx
    have r24 : x 2 = (.pointer (some ⟨w.heap.size, 2 + 1, none⟩)) := hN.1 rfl
    clear hN
    unfold StepTo
    simp only [putAll, Act.put, List.setIfInBounds_toArray, List.set_cons_succ, List.set_cons_zero, r24]
    clear r24
    obtain ⟨c0, c1, c2, c3, c4, c5, c6⟩ := hkx
    go_wp2_with fail
    exact ⟨rfl, _, rfl, HTT.out _ (rfl)⟩
  · intro x wx hst hN TT HTT
    have hst : (fun w' => WS (fun q => q = w.heap.size + 1) (w.heap.size + 1) wb (encU 2 ++ encU c ++ encU done ++ encQ encT ks) w') wx := hst
    have r22 : x 0 = (.pointer (some ⟨w.heap.size + 1, 0, none⟩)) := hN.1 rfl
    have r25 : x 3 = (.int .u64 since) := hN.2.1 rfl
    clear hN
    unfold StepTo
    simp only [putAll, Act.put, List.setIfInBounds_toArray, List.set_cons_succ, List.set_cons_zero, r22, r25]
    clear r22 r25
    go_wp2_with fail
    refine (wUint_s since _ _ _ (encU 2 ++ encU c ++ encU done ++ encQ encT ks) _ hst B3.out (by have := HL.out; simp only [List.length_append]; omega)).mono ?_
    rintro e w7 ⟨rfl, hU1⟩
    go_wp2_with fail
    exact ⟨rfl, _, rfl, HTT.out _ _ (rfl) (hU1)⟩
  · intro x wx hkx hN TT HTT
    have hkx : (fun w' => w'.cell? ⟨w.heap.size, 0, none⟩ = some (.int .i64 c) ∧ w'.cell? ⟨w.heap.size, 1, none⟩ = some (.int .u64 done) ∧ w'.cell? ⟨w.heap.size, 2, none⟩ = some (.slice ak ks.length ck) ∧ w'.cell? ⟨w.heap.size, 2 + 1, none⟩ = some (.int .u64 since) ∧ w'.cell? ⟨w.heap.size, 2 + 2, none⟩ = some (.int .u64 ver) ∧ w'.cell? ⟨w.heap.size, 2 + 3, none⟩ = some (.slice ax n cx) ∧ w'.cell? ⟨w.heap.size, 2 + 4, none⟩ = some (.slice ag gs.length cg)) wx := hkx
    clear hN
    unfold StepTo
    simp only [putAll, Act.put, List.setIfInBounds_toArray, List.set_cons_succ, List.set_cons_zero]
    go_wp2_with fail
    exact ⟨rfl, _, rfl, HTT.out _ (rfl)⟩
  · intro x wx hkx hN TT HTT
    have hkx : (fun w' => w'.cell? ⟨w.heap.size, 0, none⟩ = some (.int .i64 c) ∧ w'.cell? ⟨w.heap.size, 1, none⟩ = some (.int .u64 done) ∧ w'.cell? ⟨w.heap.size, 2, none⟩ = some (.slice ak ks.length ck) ∧ w'.cell? ⟨w.heap.size, 2 + 1, none⟩ = some (.int .u64 since) ∧ w'.cell? ⟨w.heap.size, 2 + 2, none⟩ = some (.int .u64 ver) ∧ w'.cell? ⟨w.heap.size, 2 + 3, none⟩ = some (.slice ax n cx) ∧ w'.cell? ⟨w.heap.size, 2 + 4, none⟩ = some (.slice ag gs.length cg)) wx := hkx
    have r27 : x 5 = (.pointer (some ⟨w.heap.size, 2, none⟩)) := hN.1 rfl
    clear hN
    unfold StepTo
    simp only [putAll, Act.put, List.setIfInBounds_toArray, List.set_cons_succ, List.set_cons_zero, r27]
    clear r27
    go_wp2_with fail
    exact ⟨rfl, _, rfl, HTT.out _ (rfl)⟩
  · intro x wx hkx hN TT HTT
    have hkx : (fun w' => w'.cell? ⟨w.heap.size, 0, none⟩ = some (.int .i64 c) ∧ w'.cell? ⟨w.heap.size, 1, none⟩ = some (.int .u64 done) ∧ w'.cell? ⟨w.heap.size, 2, none⟩ = some (.slice ak ks.length ck) ∧ w'.cell? ⟨w.heap.size, 2 + 1, none⟩ = some (.int .u64 since) ∧ w'.cell? ⟨w.heap.size, 2 + 2, none⟩ = some (.int .u64 ver) ∧ w'.cell? ⟨w.heap.size, 2 + 3, none⟩ = some (.slice ax n cx) ∧ w'.cell? ⟨w.heap.size, 2 + 4, none⟩ = some (.slice ag gs.length cg)) wx := hkx
    have r28 : x 6 = (.pointer (some ⟨w.heap.size, 2 + 2, none⟩)) := hN.1 rfl
    clear hN
    unfold StepTo
    simp only [putAll, Act.put, List.setIfInBounds_toArray, List.set_cons_succ, List.set_cons_zero, r28]
    clear r28
    obtain ⟨c0, c1, c2, c3, c4, c5, c6⟩ := hkx
    go_wp2_with fail
    exact ⟨rfl, _, rfl, HTT.out _ (rfl)⟩
  · intro x wx hst hN TT HTT
    have hst : (fun w' => WS (fun q => q = w.heap.size + 1) (w.heap.size + 1) wb (encU 2 ++ encU c ++ encU done ++ encQ encT ks ++ encU since) w') wx := hst
    have r26 : x 4 = (.pointer (some ⟨w.heap.size + 1, 0, none⟩)) := hN.1 rfl
    have r29 : x 7 = (.int .u64 ver) := hN.2.1 rfl
    clear hN
    unfold StepTo
    simp only [putAll, Act.put, List.setIfInBounds_toArray, List.set_cons_succ, List.set_cons_zero, r26, r29]
    clear r26 r29
    go_wp2_with fail
    refine (wUint_s ver _ _ _ (encU 2 ++ encU c ++ encU done ++ encQ encT ks ++ encU since) _ hst B4.out (by have := HL.out; simp only [List.length_append]; omega)).mono ?_
    rintro e w7 ⟨rfl, hU1⟩
    go_wp2_with fail
    exact ⟨rfl, _, rfl, HTT.out _ _ (rfl) (hU1)⟩
  · intro x wx hkx hN TT HTT
    have hkx : (fun w' => w'.cell? ⟨w.heap.size, 0, none⟩ = some (.int .i64 c) ∧ w'.cell? ⟨w.heap.size, 1, none⟩ = some (.int .u64 done) ∧ w'.cell? ⟨w.heap.size, 2, none⟩ = some (.slice ak ks.length ck) ∧ w'.cell? ⟨w.heap.size, 2 + 1, none⟩ = some (.int .u64 since) ∧ w'.cell? ⟨w.heap.size, 2 + 2, none⟩ = some (.int .u64 ver) ∧ w'.cell? ⟨w.heap.size, 2 + 3, none⟩ = some (.slice ax n cx) ∧ w'.cell? ⟨w.heap.size, 2 + 4, none⟩ = some (.slice ag gs.length cg)) wx := hkx
    clear hN
    unfold StepTo
    simp only [putAll, Act.put, List.setIfInBounds_toArray, List.set_cons_succ, List.set_cons_zero]
    go_wp2_with fail
    exact ⟨rfl, _, rfl, HTT.out _ (rfl)⟩
  · intro x wx hkx hN TT HTT
    have hkx : (fun w' => w'.cell? ⟨w.heap.size, 0, none⟩ = some (.int .i64 c) ∧ w'.cell? ⟨w.heap.size, 1, none⟩ = some (.int .u64 done) ∧ w'.cell? ⟨w.heap.size, 2, none⟩ = some (.slice ak ks.length ck) ∧ w'.cell? ⟨w.heap.size, 2 + 1, none⟩ = some (.int .u64 since) ∧ w'.cell? ⟨w.heap.size, 2 + 2, none⟩ = some (.int .u64 ver) ∧ w'.cell? ⟨w.heap.size, 2 + 3, none⟩ = some (.slice ax n cx) ∧ w'.cell? ⟨w.heap.size, 2 + 4, none⟩ = some (.slice ag gs.length cg)) wx := hkx
    have r31 : x 9 = (.pointer (some ⟨w.heap.size, 2, none⟩)) := hN.1 rfl
    clear hN
    unfold StepTo
    simp only [putAll, Act.put, List.setIfInBounds_toArray, List.set_cons_succ, List.set_cons_zero, r31]
    clear r31
    go_wp2_with fail
    exact ⟨rfl, _, rfl, HTT.out _ (rfl)⟩
  · intro x wx hkx hN TT HTT
    have hkx : (fun w' => w'.cell? ⟨w.heap.size, 0, none⟩ = some (.int .i64 c) ∧ w'.cell? ⟨w.heap.size, 1, none⟩ = some (.int .u64 done) ∧ w'.cell? ⟨w.heap.size, 2, none⟩ = some (.slice ak ks.length ck) ∧ w'.cell? ⟨w.heap.size, 2 + 1, none⟩ = some (.int .u64 since) ∧ w'.cell? ⟨w.heap.size, 2 + 2, none⟩ = some (.int .u64 ver) ∧ w'.cell? ⟨w.heap.size, 2 + 3, none⟩ = some (.slice ax n cx) ∧ w'.cell? ⟨w.heap.size, 2 + 4, none⟩ = some (.slice ag gs.length cg)) wx := hkx
    have r32 : x 10 = (.pointer (some ⟨w.heap.size, 2 + 3, none⟩)) := hN.1 rfl
    clear hN
    unfold StepTo
    simp only [putAll, Act.put, List.setIfInBounds_toArray, List.set_cons_succ, List.set_cons_zero, r32]
    clear r32
    obtain ⟨c0, c1, c2, c3, c4, c5, c6⟩ := hkx
    go_wp2_with fail
    exact ⟨rfl, _, rfl, HTT.out _ (rfl)⟩
  · intro x wx hkx hN TT HTT
    have hkx : (fun w' => w'.cell? ⟨w.heap.size, 0, none⟩ = some (.int .i64 c) ∧ w'.cell? ⟨w.heap.size, 1, none⟩ = some (.int .u64 done) ∧ w'.cell? ⟨w.heap.size, 2, none⟩ = some (.slice ak ks.length ck) ∧ w'.cell? ⟨w.heap.size, 2 + 1, none⟩ = some (.int .u64 since) ∧ w'.cell? ⟨w.heap.size, 2 + 2, none⟩ = some (.int .u64 ver) ∧ w'.cell? ⟨w.heap.size, 2 + 3, none⟩ = some (.slice ax n cx) ∧ w'.cell? ⟨w.heap.size, 2 + 4, none⟩ = some (.slice ag gs.length cg)) wx := hkx
    have r33 : x 11 = (.slice ax n cx) := hN.1 rfl
    clear hN
    unfold StepTo
    simp only [putAll, Act.put, List.setIfInBounds_toArray, List.set_cons_succ, List.set_cons_zero, r33]
    clear r33
    go_wp2_with fail
    exact ⟨rfl, _, rfl, HTT.out _ (rfl)⟩
  · intro x wx hkx hN TT HTT
    have hkx : (fun w' => w'.cell? ⟨w.heap.size, 0, none⟩ = some (.int .i64 c) ∧ w'.cell? ⟨w.heap.size, 1, none⟩ = some (.int .u64 done) ∧ w'.cell? ⟨w.heap.size, 2, none⟩ = some (.slice ak ks.length ck) ∧ w'.cell? ⟨w.heap.size, 2 + 1, none⟩ = some (.int .u64 since) ∧ w'.cell? ⟨w.heap.size, 2 + 2, none⟩ = some (.int .u64 ver) ∧ w'.cell? ⟨w.heap.size, 2 + 3, none⟩ = some (.slice ax n cx) ∧ w'.cell? ⟨w.heap.size, 2 + 4, none⟩ = some (.slice ag gs.length cg)) wx := hkx
    have r34 : x 12 = (.int .i64 n) := hN.1 rfl
    clear hN
    unfold StepTo
    simp only [putAll, Act.put, List.setIfInBounds_toArray, List.set_cons_succ, List.set_cons_zero, r34]
    clear r34
    go_wp2_with fail
    exact ⟨rfl, _, rfl, HTT.out _ (rfl)⟩
  intro xb wxb hstb hN
  have hstb : (fun w' => WS (fun q => q = w.heap.size + 1) (w.heap.size + 1) wb (encU 2 ++ encU c ++ encU done ++ encQ encT ks ++ encU since ++ encU ver) w') wxb := hstb
  have r22 : xb 0 = (.pointer (some ⟨w.heap.size + 1, 0, none⟩)) := hN.1
  have r23 : xb 1 = (.pointer (some ⟨w.heap.size, 2, none⟩)) := hN.2.1
  have r24 : xb 2 = (.pointer (some ⟨w.heap.size, 2 + 1, none⟩)) := hN.2.2.1
  have r25 : xb 3 = (.int .u64 since) := hN.2.2.2.1
  have r26 : xb 4 = (.pointer (some ⟨w.heap.size + 1, 0, none⟩)) := hN.2.2.2.2.1
  have r27 : xb 5 = (.pointer (some ⟨w.heap.size, 2, none⟩)) := hN.2.2.2.2.2.1
  have r28 : xb 6 = (.pointer (some ⟨w.heap.size, 2 + 2, none⟩)) := hN.2.2.2.2.2.2.1
  have r29 : xb 7 = (.int .u64 ver) := hN.2.2.2.2.2.2.2.1
  have r30 : xb 8 = (.pointer (some ⟨w.heap.size + 1, 0, none⟩)) := hN.2.2.2.2.2.2.2.2.1
  have r31 : xb 9 = (.pointer (some ⟨w.heap.size, 2, none⟩)) := hN.2.2.2.2.2.2.2.2.2.1
  have r32 : xb 10 = (.pointer (some ⟨w.heap.size, 2 + 3, none⟩)) := hN.2.2.2.2.2.2.2.2.2.2.1
  have r33 : xb 11 = (.slice ax n cx) := hN.2.2.2.2.2.2.2.2.2.2.2.1
  have r34 : xb 12 = (.int .i64 n) := hN.2.2.2.2.2.2.2.2.2.2.2.2.1
  have r35 : xb 13 = (.int .u64 n) := hN.2.2.2.2.2.2.2.2.2.2.2.2.2.1
  clear hN
  simp only [putAll, Act.put, List.setIfInBounds_toArray, List.set_cons_succ, List.set_cons_zero, r22, r23, r24, r25, r26, r27, r28, r29, r30, r31, r32, r33, r34, r35]
  clear r22 r23 r24 r25 r26 r27 r28 r29 r30 r31 r32 r33 r34 r35
  go_wp2_with fail
  refine (wUint_s n _ _ _ (encU 2 ++ encU c ++ encU done ++ encQ encT ks ++ encU since ++ encU ver) _ hstb (by omega) (by have := HL.out; simp only [List.length_append]; omega)).mono ?_
  rintro e w5 ⟨rfl, h5⟩
  have H5 := Lib.hid h5
  obtain ⟨c0, c1, c2, c3, c4, c5, c6⟩ := HC.out _ _ h5
  clear h5 hstb
  go_wp2_with fail
  clear c0 c1 c2 c3 c4 c5 c6
  go_loopw [41] (fun v wr => ∃ i : Nat, v = .int .i64 (i : Int) ∧ i ≤ n ∧ Hid (WS (fun q => q = w.heap.size + 1) (w.heap.size + 1) wb (encU 2 ++ encU c ++ encU done ++ encQ encT ks ++ encU since ++ encU ver ++ encU n ++ encF encE1 (xs.take i)) wr)) (fun v _ => n - (intOf v).toNat)
  case atStart => exact ⟨0, rfl, by omega, Lib.hid (by simpa [encF] using H5.out)⟩
  case round =>
    obtain ⟨i, rfl, hi, HW⟩ := hrel
    by_cases hlt : i < n
    · have t1 : decide ((i : Int) < (n : Int)) = true := by simpa using hlt
      have hi0 : (0 : Int) ≤ (i : Int) := by omega
      have hi1 : (i : Int) < (n : Int) := by omega
      have hki : i < xs.length := by rw [← HN.out]; exact hlt
      obtain ⟨g, off, cs, ha, hg, hb, hcl, hr, hp⟩ := (HKEEP.out _ _ HW.out).2.2.1.get i hki
      subst ha
      obtain ⟨ek, ev, dk, dv, rfl, e1, e2, e3⟩ := hp
      obtain ⟨f0, f1, f2, f3⟩ := range4 hr
      have hle := encF_take_le encE1 xs i hki
      have hst := encF_take encE1 xs i hki
      have hgd := HGOOD.out i hki
      obtain ⟨⟨ty, id, kk, vv⟩, hx⟩ : ∃ x, x = xs[i] := ⟨_, rfl⟩
      rw [← hx] at e1 e2 e3 f0 f1 f2 f3 hle hst hgd
      simp only at e1 e2 e3 f0 f1 f2 f3 hgd
      have oal := (Only.refl (fun _ => False) wr).alloc (.cells #[.string ⟨ty.toArray⟩, .string ⟨id.toArray⟩, .slice ek kk.length dk, .slice ev vv.length dv] 69)
      have hl1 : ty.length + id.length ≤ (encE1 (ty, id, kk, vv)).length := by
        unfold encE1 encE
        simp only [List.length_append]
        have := encT_le ty; have := encT_le id
        omega
      have hwe := wEntity ty id kk vv ek ev dk dv _ G _ wb _ _ (HW.out.still oal) (valAt_only oal (fun _ _ h => h) _ _ e3) hgd.1 HGF.out hgd.2.2.1 hgd.2.2.2 hgd.2.1 (by have := HL.out; simp only [List.length_append]; have := encF_len_take encE1 xs i; omega)
      have hcat : ∀ L : List UInt8, L ++ encF encE1 (xs.take i) ++ encE ty id kk vv = L ++ encF encE1 (xs.take (i + 1)) := fun L => by rw [hst, List.append_assoc]; rfl
      have HWE := Lib.hid hwe; have HCAT := Lib.hid hcat; clear hwe hcat oal hl1 hle hst hgd hx e1 e2 e3 hr hg hb hcl hki
      go_wp2_with fail
      refine HWE.out.mono ?_
      rintro e w7 ⟨rfl, h7⟩
      rw [HCAT.out] at h7
      have H7 := Lib.hid h7; clear h7
      go_wp2_with fail
      go_roundw
      case rel => exact ⟨i + 1, by simp [go_sem], by omega, H7⟩
      case measure => simp [intOf]; omega
    · have t1 : decide ((i : Int) < (n : Int)) = false := by simp; omega
      obtain rfl : n = i := by omega
      have h8 := HW.out
      rw [HN.out, List.take_length, ← HN.out] at h8
      obtain ⟨c0, c1, c2, c3, c4, c5, c6⟩ := HC.out _ _ h8
      have ht := wTexts gs ag cg _ G _ _ _ _ h8 (HKEEP.out _ _ h8).2.2.2 HGF.out HK3.out (by have := HL.out; simp only [List.length_append]; omega)
      have HT := Lib.hid ht; clear ht h8
      go_wp2_with fail
      refine HT.out.mono ?_
      rintro e w9 ⟨rfl, h9⟩
      have hd := wSealed_s _ _ _ _ _ h9 (by have := HL.out; simp only [List.length_append]; omega)
      have o9 : Only (fun _ => False) w w9 := OB.out.trans' h9.only (fun q hq e => by omega)
      have HD := Lib.hid hd; have O9 := Lib.hid o9; clear hd o9 h9 c0 c1 c2 c3 c4 c5 c6
      go_wp2_with fail
      refine HD.out.mono ?_
      rintro e w10 ⟨v10, rfl, h10, o10⟩
      have hfin : Makes w (sealed (encU 2 ++ encU c ++ encU done ++ encQ encT ks ++ encU since ++ encU ver ++ encU n ++ encF encE1 xs ++ encQ encT gs)) (.returned v10) w10 := ⟨v10, rfl, h10.mono O9.out.size, O9.out.trans o10⟩
      have HF := Lib.hid hfin; clear hfin h10 o10
      go_wp2_with fail
      go_ret
      exact HF.out
end Go.Proofs.Ytoojnpafcdaflaa
namespace Go.Proofs.Ytoojnpafcdaflaa
open Go Go.RowKit
set_option linter.unusedVariables false
set_option linter.unusedSimpArgs false
set_option maxRecDepth 100000

theorem range4p {w : World} {b off : Nat} {c0 c1 c2 c3 : Value} (h : w.rangeAt b off [c0, c1, c2, c3]) :
    w.cell? ⟨b, off, none⟩ = some c0 ∧ w.cell? ⟨b, off + 1, none⟩ = some c1 ∧ w.cell? ⟨b, off + 2, none⟩ = some c2 ∧ w.cell? ⟨b, off + 3, none⟩ = some c3 :=
  ⟨h 0 _ rfl, h 1 _ rfl, h 2 _ rfl, h 3 _ rfl⟩
theorem tbox1 (w : World) (e0 e1 e2 e3 e4 e5 e6 : Value) : ∃ wb, wb = w.alloc (.cells #[e0, e1, e2, e3, e4, e5, e6] 83) ∧ Only (fun _ => False) w wb ∧ ∀ w', Only (fun _ => False) wb w' → w'.heap[w.heap.size]? = some (.cells #[e0, e1, e2, e3, e4, e5, e6] 83 (0, 0)) := by
  refine ⟨_, rfl, (Only.refl _ w).alloc _, fun w' ho => ?_⟩
  have h := heap_new w (.cells #[e0, e1, e2, e3, e4, e5, e6] 83)
  rw [ho.block _ (Array.getElem?_eq_some_iff.1 h).1 (fun h => h)]; exact h
theorem encF_len_take' {α : Type} (enc : α → List UInt8) (xs : List α) (i : Nat) : (encF enc (xs.take i)).length ≤ (encF enc xs).length := by
  have e : xs = xs.take i ++ xs.drop i := (List.take_append_drop _ _).symm
  conv => rhs; rw [e]
  rw [encF_append, List.length_append]; omega
set_option maxHeartbeats 16000000 in
theorem rTell (t : TellV) (G : Nat → Prop) (w : World) (cs : List Value) (h : TellAt w G t cs) (hE : ∀ x ∈ t.xs, GoodV (objV x.2.2.1 x.2.2.2) ∧ (encV (objV x.2.2.1 x.2.2.2)).length ≤ 1000000 ∧ x.1.length ≤ 100000000 ∧ x.2.1.length ≤ 100000000)
    (hk : t.ks.length ≤ 1000000 ∧ t.xs.length ≤ 1000000 ∧ t.gs.length ≤ 1000000) (hl : (encTell t).length ≤ 900000000) :
    Calls Try.prog 56 #[.agg cs.toArray] w (Makes w (encTell t)) := by
  obtain ⟨c, done, ks, since, ver, xs, gs⟩ := t
  obtain ⟨ak, ck, ax, cx, ag, cg, rfl, h1, h2, h3, h4, h5, h6, h7, h8, h9, h10⟩ := h
  simp only at h1 h2 h3 h4 h5 h6 h7 h8 h9 h10 hE hk ⊢
  obtain ⟨hk1, hk2, hk3⟩ := hk
  have hlens : (encU 2).length + (encU c).length + (encU done).length + (encQ encT ks).length + (encU since).length + (encU ver).length + (encU xs.length).length + (encF encE1 xs).length + (encQ encT gs).length = (encTell (⟨c, done, ks, since, ver, xs, gs⟩ : TellV)).length := by
    unfold encTell
    simp only [List.length_append]
    rw [show (encQ encE1 xs).length = (encU xs.length).length + (encF encE1 xs).length from by unfold encQ; rw [List.length_append]]
    omega
  rw [← hlens] at hl
  have hfull : encTell (⟨c, done, ks, since, ver, xs, gs⟩ : TellV) = encU 2 ++ encU c ++ encU done ++ encQ encT ks ++ encU since ++ encU ver ++ encU xs.length ++ encF encE1 xs ++ encQ encT gs := by
    unfold encTell encQ
    simp only [List.append_assoc]
  rw [hfull]
  clear hlens hfull
  obtain ⟨wb, hwb, ob, hbx⟩ := tbox1 w (.int .i64 c) (.int .u64 done) (.slice ak ks.length ck) (.int .u64 since) (.int .u64 ver) (.slice ax xs.length cx) (.slice ag gs.length cg)
  have hB : ∀ w', Only (fun _ => False) wb w' → w'.heap[w.heap.size]? = some (.cells #[.int .i64 c, .int .u64 done, .slice ak ks.length ck, .int .u64 since, .int .u64 ver, .slice ax xs.length cx, .slice ag gs.length cg] 83 (0, 0)) ∧ ListAt 1 TextP w' G ak ks ∧ ListAt 4 EntP w' G ax xs ∧ ListAt 1 TextP w' G ag gs := fun w' ho => ⟨hbx w' ho, h8.only textP_keeps (ob.trans ho) (fun _ _ h => h), h9.only entP_keeps (ob.trans ho) (fun _ _ h => h), h10.only textP_keeps (ob.trans ho) (fun _ _ h => h)⟩
  have hgood : ∀ i (h : i < xs.length), GoodV (objV xs[i].2.2.1 xs[i].2.2.2) ∧ (encV (objV xs[i].2.2.1 xs[i].2.2.2)).length ≤ 1000000 ∧ xs[i].1.length ≤ 100000000 ∧ xs[i].2.1.length ≤ 100000000 := fun i h => hE _ (List.getElem_mem _)
  obtain ⟨n, hn⟩ : ∃ n, n = xs.length := ⟨_, rfl⟩
  unfold Fits maxLen at h5 h6 h7
  have b1 : (0 : Int) ≤ (c : Int) := by omega
  have b2 : (c : Int) ≤ 9223372036854775807 := by omega
  have b3 : (0 : Int) ≤ (n : Int) := by omega
  have b4 : (n : Int) ≤ 1000000 := by omega
  rw [← hn] at hl hB hwb ⊢
  have HB := Lib.hid hB; have HWB := Lib.hid hwb; have OB := Lib.hid ob; have HGOOD := Lib.hid hgood; have HL := Lib.hid hl; have HN := Lib.hid hn; have B1 := Lib.hid h1; have B2 := Lib.hid h2; have HK1 := Lib.hid hk1; have B3 := Lib.hid h3; have B4 := Lib.hid h4; have HK3 := Lib.hid hk3
  clear hB hwb ob hgood hl hn hbx hE h1 h2 h5 h6 h8 h9 hk1 hk2 h3 h4 h7 h10 hk3
  have g0 := box7 (HB.out wb (Only.refl _ _)).1
  rw [HWB.out] at g0
  obtain ⟨c0, c1, c2, c3, c4, c5, c6⟩ := g0
  go_enter Try.func56, Try.ntmps56
  go_wp2_with fail
  rw [← HWB.out]
  clear c0 c1 c2 c3 c4 c5 c6
  refine (rUint 2 wb (by decide)).mono ?_
  rintro e w0 ⟨v0, rfl, h0, o0⟩
  have H0 := Lib.hid h0; have O0 := Lib.hid o0; clear h0 o0
  obtain ⟨c0, c1, c2, c3, c4, c5, c6⟩ := box7 (HB.out w0 O0.out).1
  go_wp2_with fail
  refine (rUint c w0 (by have := B1.out; omega)).mono ?_
  rintro e w1a ⟨v1a, rfl, h1a, o1a⟩
  have H1a := Lib.hid h1a; have O1a := Lib.hid (O0.out.trans o1a); have HP1 := Lib.hid (H0.out.still o1a); clear h1a o1a c0 c1 c2 c3 c4 c5 c6
  go_wp2_with ((refine wpList_append8 (o := ⟨some 11, _, _, _, _, _⟩) rfl (.tmp 6) (.tmp 10) (by rfl) wb.heap.size _ _ (encU 2) (encU c) (by rfl) (by rfl) HP1.out H1a.out.bytes (by have := HL.out; (try simp only [List.length_append]); omega) O1a.out.size ?_; intro L1 a1 c1' w1 hL1 h1 g1; have o1 := g1.out.step O1a.out (fun k hk => .inr (HP1.out.ge hk).1); obtain ⟨c0, c1, c2, c3, c4, c5, c6⟩ := box7 (HB.out w1 o1).1; have O1 := Lib.hid o1; have H1 := Lib.hid h1.out; clear o1))
  have hE1 : L1 = encU 2 ++ encU c := by rw [hL1.out]
  have HE1 := Lib.hid hE1; clear hE1
  refine (rUint done w1 B2.out).mono ?_
  rintro e w2a ⟨v2a, rfl, h2a, o2a⟩
  have H2a := Lib.hid h2a; have O2a := Lib.hid (O1.out.trans o2a); have HP2 := Lib.hid (H1.out.still o2a); clear h2a o2a c0 c1 c2 c3 c4 c5 c6
  go_wp2_with ((refine wpList_append8 (o := ⟨some 16, _, _, _, _, _⟩) rfl (.tmp 12) (.tmp 15) (by rfl) wb.heap.size _ _ (L1) (encU done) (by rfl) (by rfl) HP2.out H2a.out.bytes (by have := HL.out; rw [HE1.out]; (try simp only [List.length_append]); omega) O2a.out.size ?_; intro L2 a2 c2' w2 hL2 h2 g2; have o2 := g2.out.step O2a.out (fun k hk => .inr (HP2.out.ge hk).1); obtain ⟨c0, c1, c2, c3, c4, c5, c6⟩ := box7 (HB.out w2 o2).1; have O2 := Lib.hid o2; have H2 := Lib.hid h2.out; clear o2))
  have hE2 : L2 = encU 2 ++ encU c ++ encU done := by rw [hL2.out, HE1.out]
  have HE2 := Lib.hid hE2; clear hE2
  refine (rTexts ks ak ck G w2 (HB.out w2 O2.out).2.1 HK1.out (by have := HL.out; omega)).mono ?_
  rintro e w3a ⟨v3a, rfl, h3a, o3a⟩
  have H3a := Lib.hid h3a; have O3a := Lib.hid (O2.out.trans o3a); have HP3 := Lib.hid (H2.out.still o3a); clear h3a o3a c0 c1 c2 c3 c4 c5 c6
  go_wp2_with ((refine wpList_append8 (o := ⟨some 22, _, _, _, _, _⟩) rfl (.tmp 17) (.tmp 21) (by rfl) wb.heap.size _ _ (L2) (encQ encT ks) (by rfl) (by rfl) HP3.out H3a.out.bytes (by have := HL.out; rw [HE2.out]; (try simp only [List.length_append]); omega) O3a.out.size ?_; intro L3 a3 c3' w3 hL3 h3 g3; have o3 := g3.out.step O3a.out (fun k hk => .inr (HP3.out.ge hk).1); obtain ⟨c0, c1, c2, c3, c4, c5, c6⟩ := box7 (HB.out w3 o3).1; have O3 := Lib.hid o3; have H3 := Lib.hid h3.out; clear o3))
  have hE3 : L3 = encU 2 ++ encU c ++ encU done ++ encQ encT ks := by rw [hL3.out, HE2.out]
  have HE3 := Lib.hid hE3; clear hE3
  refine (rUint since w3 B3.out).mono ?_
  rintro e w4a ⟨v4a, rfl, h4a, o4a⟩
  have H4a := Lib.hid h4a; have O4a := Lib.hid (O3.out.trans o4a); have HP4 := Lib.hid (H3.out.still o4a); clear h4a o4a c0 c1 c2 c3 c4 c5 c6
  go_wp2_with ((refine wpList_append8 (o := ⟨some 28, _, _, _, _, _⟩) rfl (.tmp 23) (.tmp 27) (by rfl) wb.heap.size _ _ (L3) (encU since) (by rfl) (by rfl) HP4.out H4a.out.bytes (by have := HL.out; rw [HE3.out]; (try simp only [List.length_append]); omega) O4a.out.size ?_; intro L4 a4 c4' w4 hL4 h4 g4; have o4 := g4.out.step O4a.out (fun k hk => .inr (HP4.out.ge hk).1); obtain ⟨c0, c1, c2, c3, c4, c5, c6⟩ := box7 (HB.out w4 o4).1; have O4 := Lib.hid o4; have H4 := Lib.hid h4.out; clear o4))
  have hE4 : L4 = encU 2 ++ encU c ++ encU done ++ encQ encT ks ++ encU since := by rw [hL4.out, HE3.out]
  have HE4 := Lib.hid hE4; clear hE4
  refine (rUint ver w4 B4.out).mono ?_
  rintro e w5a ⟨v5a, rfl, h5a, o5a⟩
  have H5a := Lib.hid h5a; have O5a := Lib.hid (O4.out.trans o5a); have HP5 := Lib.hid (H4.out.still o5a); clear h5a o5a c0 c1 c2 c3 c4 c5 c6
  go_wp2_with ((refine wpList_append8 (o := ⟨some 34, _, _, _, _, _⟩) rfl (.tmp 29) (.tmp 33) (by rfl) wb.heap.size _ _ (L4) (encU ver) (by rfl) (by rfl) HP5.out H5a.out.bytes (by have := HL.out; rw [HE4.out]; (try simp only [List.length_append]); omega) O5a.out.size ?_; intro L5 a5 c5' w5 hL5 h5 g5; have o5 := g5.out.step O5a.out (fun k hk => .inr (HP5.out.ge hk).1); obtain ⟨c0, c1, c2, c3, c4, c5, c6⟩ := box7 (HB.out w5 o5).1; have O5 := Lib.hid o5; have H5 := Lib.hid h5.out; clear o5))
  have hE5 : L5 = encU 2 ++ encU c ++ encU done ++ encQ encT ks ++ encU since ++ encU ver := by rw [hL5.out, HE4.out]
  have HE5 := Lib.hid hE5; clear hE5
  refine (rUint n w5 (by omega)).mono ?_
  rintro e w6a ⟨v6a, rfl, h6a, o6a⟩
  have H6a := Lib.hid h6a; have O6a := Lib.hid (O5.out.trans o6a); have HP6 := Lib.hid (H5.out.still o6a); clear h6a o6a c0 c1 c2 c3 c4 c5 c6
  go_wp2_with ((refine wpList_append8 (o := ⟨some 42, _, _, _, _, _⟩) rfl (.tmp 35) (.tmp 41) (by rfl) wb.heap.size _ _ (L5) (encU n) (by rfl) (by rfl) HP6.out H6a.out.bytes (by have := HL.out; rw [HE5.out]; (try simp only [List.length_append]); omega) O6a.out.size ?_; intro L6 a6 c6' w6 hL6 h6 g6; have o6 := g6.out.step O6a.out (fun k hk => .inr (HP6.out.ge hk).1); obtain ⟨c0, c1, c2, c3, c4, c5, c6⟩ := box7 (HB.out w6 o6).1; have O6 := Lib.hid o6; have H6 := Lib.hid h6.out; clear o6))
  have hE6 : L6 = encU 2 ++ encU c ++ encU done ++ encQ encT ks ++ encU since ++ encU ver ++ encU n := by rw [hL6.out, HE5.out]
  have HE6 := Lib.hid hE6; clear hE6
  clear c0 c1 c2 c3 c4 c5 c6
  go_loopw [3, 4] (fun v x wr => ∃ i : Nat, x = .int .i64 (i : Int) ∧ i ≤ n ∧ Hid (Own8 wr wb.heap.size v (encU 2 ++ encU c ++ encU done ++ encQ encT ks ++ encU since ++ encU ver ++ encU n ++ encF encE1 (xs.take i))) ∧ Hid (Only (fun _ => False) wb wr)) (fun _ x _ => n - (intOf x).toNat)
  case atStart => exact ⟨0, rfl, by omega, Lib.hid (by have := H6.out; rw [List.take_zero, show encF encE1 [] = [] from rfl, List.append_nil, ← HE6.out]; exact this), O6⟩
  case round =>
    obtain ⟨i, rfl, hi, HW, HO⟩ := hrel
    obtain ⟨c0, c1, c2, c3, c4, c5, c6⟩ := box7 (HB.out wr HO.out).1
    by_cases hlt : i < n
    · have t1 : decide ((i : Int) < (n : Int)) = true := by simpa using hlt
      have hi0 : (0 : Int) ≤ (i : Int) := by omega
      have hi1 : (i : Int) < (n : Int) := by omega
      have hki : i < xs.length := by rw [← HN.out]; exact hlt
      obtain ⟨g, off, cs, ha, hg, hb, hcl, hr, hp⟩ := (HB.out wr HO.out).2.2.1.get i hki
      subst ha
      obtain ⟨ek, ev, dk, dv, rfl, e1, e2, e3⟩ := hp
      have hle := encF_take_le encE1 xs i hki
      have hst := encF_take encE1 xs i hki
      have hgd := HGOOD.out i hki
      obtain ⟨⟨ty, id, kk, vv⟩, hx⟩ : ∃ x, x = xs[i] := ⟨_, rfl⟩
      rw [← hx] at e1 e2 e3 hr hle hst hgd
      simp only at e1 e2 e3 hr hgd
      have hle1 : (encT ty).length + ((encT id).length + (encV (objV kk vv)).length) = (encE1 (ty, id, kk, vv)).length := by
        unfold encE1 encE
        simp only [List.length_append]
      have hd1 := encT_le ty; have hd2 := encT_le id
      have hbd := HL.out
      obtain ⟨f0, f1, f2, f3⟩ := range4p hr
      obtain ⟨LL, hLL⟩ : ∃ LL, LL = encU 2 ++ encU c ++ encU done ++ encQ encT ks ++ encU since ++ encU ver ++ encU n ++ encF encE1 (xs.take i) := ⟨_, rfl⟩
      have hLl : LL.length + (encE1 (ty, id, kk, vv)).length ≤ 900000000 := by rw [hLL]; simp only [List.length_append]; omega
      have how := HW.out
      rw [← hLL] at how
      have hcat : LL ++ encE ty id kk vv = encU 2 ++ encU c ++ encU done ++ encQ encT ks ++ encU since ++ encU ver ++ encU n ++ encF encE1 (xs.take (i + 1)) := by
        rw [hLL, hst, List.append_assoc]; rfl
      have hre := rEntityR ty id kk vv ek ev dk dv G wr e3 hgd.1 hgd.2.2.1 hgd.2.2.2 hgd.2.1
      have hEe : (encE ty id kk vv).length = (encE1 (ty, id, kk, vv)).length := rfl
      rw [← hEe] at hLl
      have HOW := Lib.hid how; have HCAT := Lib.hid hcat; have HLl := Lib.hid hLl; have HRE := Lib.hid hre
      clear how hcat hLl hle hst hgd hx hle1 hd1 hd2 hbd e1 e2 e3 hr hg hb hcl hki hLL HW hre hEe
      go_wp2_with fail
      refine HRE.out.mono ?_
      rintro e y1 ⟨u1, rfl, p1, o1⟩
      have P1 := Lib.hid p1; have Q1 := Lib.hid (HO.out.trans o1); have OW1 := Lib.hid (HOW.out.still o1); clear p1 o1 f0 f1 f2 f3 c0 c1 c2 c3 c4 c5 c6
      go_wp2_with ((refine wpList_append8 (o := ⟨some 59, _, _, _, _, _⟩) rfl (.tmp 51) (.tmp 58) (by rfl) wb.heap.size _ _ LL (encE ty id kk vv) (by rfl) (by rfl) OW1.out P1.out.bytes (by have := HLl.out; omega) Q1.out.size ?_; intro L2 a4 c4 y2 hL2 h4 g4))
      have oy2 := g4.out.step Q1.out (fun k hk => .inr (OW1.out.ge hk).1)
      have h5 := h4.out
      rw [hL2.out, HCAT.out] at h5
      rw [hL2.out, HCAT.out]
      have H5' := Lib.hid h5; have OY2 := Lib.hid oy2; clear h5 oy2
      go_roundw
      case rel => exact ⟨i + 1, by simp [go_sem], by omega, H5', OY2⟩
      case measure => simp [intOf]; omega
    · have t1 : decide ((i : Int) < (n : Int)) = false := by simp; omega
      obtain rfl : n = i := by omega
      have h8 := HW.out
      rw [HN.out, List.take_length, ← HN.out] at h8
      have H8 := Lib.hid h8; clear h8
      go_wp2_with fail
      refine (rTexts gs ag cg G wr (HB.out wr HO.out).2.2.2 HK3.out (by have := HL.out; omega)).mono ?_
      rintro e y1 ⟨u1, rfl, p1, o1⟩
      have P1 := Lib.hid p1; have Q1 := Lib.hid (HO.out.trans o1); have OW1 := Lib.hid (H8.out.still o1); clear p1 o1 c0 c1 c2 c3 c4 c5 c6
      go_wp2_with ((refine wpList_append8 (o := ⟨some 65, _, _, _, _, _⟩) rfl (.tmp 60) (.tmp 64) (by rfl) wb.heap.size _ _ (encU 2 ++ encU c ++ encU done ++ encQ encT ks ++ encU since ++ encU ver ++ encU n ++ encF encE1 xs) (encQ encT gs) (by rfl) (by rfl) OW1.out P1.out.bytes (by have := HL.out; (try simp only [List.length_append]); omega) Q1.out.size ?_; intro L2 a4 c4 y2 hL2 h4 g4))
      have oy2 := g4.out.step Q1.out (fun k hk => .inr (OW1.out.ge hk).1)
      have hfin : Makes w (encU 2 ++ encU c ++ encU done ++ encQ encT ks ++ encU since ++ encU ver ++ encU n ++ encF encE1 xs ++ encQ encT gs) (.returned (.slice a4 L2.length c4)) y2 := ⟨_, rfl, by rw [← hL2.out]; exact h4.out.mono OB.out.size, OB.out.trans oy2⟩
      have HF := Lib.hid hfin; clear hfin oy2
      go_ret
      exact HF.out
end Go.Proofs.Ytoojnpafcdaflaa
namespace Go.Proofs.Ytoojnpafcdaflaa
open Go Go.RowKit
set_option linter.unusedVariables false
set_option linter.unusedSimpArgs false
set_option maxRecDepth 100000

theorem awk17t (w : World) : Calls Try.prog 42 #[] w fun e w' => e = .returned (.bool true) ∧ Only (fun _ => False) w w' :=
  (awake_true w).mono fun e w' ⟨h1, h2⟩ => ⟨h1, Only.ofBelow h2 _⟩
theorem sealed_codeT {l : List UInt8} {c : Int} (h : Sealed l) (hc : OpenCode l c) : c = 0 := hc.one (.inr (.inr ⟨h, rfl⟩))
theorem texts_readT {ks : List (List UInt8)} {long : Nat} (h : ∀ s ∈ ks, s.length < 18446744073709551616) : ∀ s ∈ ks, (∀ r, decT long (encT s ++ r) = some (s, r)) ∨ (∀ r, decT long (encT s ++ r) = none) := fun s hs => by
  rcases Nat.lt_or_ge long s.length with h1 | h1
  · exact .inr fun r => decT_overA s r (h s hs) h1
  · exact .inl fun r => decT_encA s r (h s hs) h1
theorem texts_badT {ks : List (List UInt8)} {long most : Nat} (r : List UInt8) (h : ∀ s ∈ ks, s.length < 18446744073709551616) (hl : ks.length < 18446744073709551616) (hn : ¬ (ks.length ≤ most ∧ ∀ s ∈ ks, okT long s)) : decQ most (decT long) (encQ encT ks ++ r) = none := by
  by_cases h1 : ks.length ≤ most
  · have h2 : ¬ ∀ s ∈ ks, okT long s := fun h3 => hn ⟨h1, h3⟩
    have h3 : ∃ s ∈ ks, ¬ okT long s := Classical.byContradiction fun h4 => h2 fun s hs => Classical.byContradiction fun h5 => h4 ⟨s, hs, h5⟩
    obtain ⟨s, hs, h4⟩ := h3
    refine decQ_bad ks r hl (texts_readT h) ⟨s, hs, fun r => decT_overA s r (h s hs) ?_⟩
    unfold okT at h4; omega
  · exact decQ_over ks r (by omega) hl
theorem id_of_dec {l ty id : List UInt8} {ks : List (List UInt8)} {vs : List VT} {r : List UInt8} (h : DecE l ty id ks vs r) : ∃ r1 r2, decT 32 l = some (ty, r1) ∧ decT 200 r1 = some (id, r2) ∧ decV 24 r2 = some (objV ks vs, r) ∧ Rising ks := h
theorem ent_bad {y : (List UInt8 × List UInt8 × List (List UInt8) × List VT)} (h1 : y.1.length < 18446744073709551616) (h2 : y.2.1.length < 18446744073709551616) (hf : formV (objV y.2.2.1 y.2.2.2) 0 = true) (hs : SmallV (objV y.2.2.1 y.2.2.2)) (hn : ¬ okE y) (r : List UInt8) : decE1 (encE1 y ++ r) = none := by
  rw [decE1_none]
  rintro ty id ks vs r' hd
  obtain ⟨r1, r2, q1, q2, q3, q4⟩ := id_of_dec hd
  have hty : y.1.length ≤ 32 := by
    rcases Nat.lt_or_ge 32 y.1.length with h | h
    · unfold encE1 encE at q1
      rw [List.append_assoc, decT_overA _ _ h1 h] at q1; cases q1
    · exact h
  have e1 : r1 = encT y.2.1 ++ (encV (objV y.2.2.1 y.2.2.2) ++ r) := by
    unfold encE1 encE at q1
    rw [List.append_assoc, decT_encA _ _ h1 hty, List.append_assoc] at q1
    injection q1 with q1; injection q1 with _ q1
    exact q1.symm
  have hid : y.2.1.length ≤ 200 := by
    rcases Nat.lt_or_ge 200 y.2.1.length with h | h
    · rw [e1, decT_overA _ _ h2 h] at q2; cases q2
    · exact h
  have ho := decE_only hty hid hs hf hd
  exact hn ⟨hty, hid, hf, hs, ho.2.2.2.2.2⟩
/-- What does not fit is not read. -/
theorem tell_none {a : TellV} (hc : a.c < 18446744073709551616) (hd : a.done < 18446744073709551616) (hkl : a.ks.length < 18446744073709551616) (hkb : ∀ s ∈ a.ks, s.length < 18446744073709551616) (hs : a.since < 18446744073709551616) (hv : a.ver < 18446744073709551616) (hml : a.xs.length < 18446744073709551616)
    (hm : ∀ x ∈ a.xs, x.1.length < 18446744073709551616 ∧ x.2.1.length < 18446744073709551616 ∧ formV (objV x.2.2.1 x.2.2.2) 0 = true ∧ SmallV (objV x.2.2.1 x.2.2.2)) (hgl : a.gs.length < 18446744073709551616) (hgb : ∀ s ∈ a.gs, s.length < 18446744073709551616) (hn : ¬ okTell a) : ∀ a', ¬ TellOf (encTell a) a' := by
  rintro a' ⟨r, h0, h⟩
  unfold encTell at h0
  rw [decU_encA _ (by decide) (by decide)] at h0
  injection h0 with h0; injection h0 with _ h0
  subst h0
  unfold decTellB at h
  by_cases g1 : a.c ≤ 4
  rotate_left
  · rw [decU_overA _ hc (by omega)] at h; cases h
  rw [decU_encA _ hc g1] at h
  simp only at h
  by_cases g2 : a.done ≤ 1152921504606846976
  rotate_left
  · rw [decU_overA _ hd (by omega)] at h; cases h
  rw [decU_encA _ hd g2] at h
  simp only at h
  by_cases g3 : a.ks.length ≤ 20 ∧ ∀ s ∈ a.ks, okT 32 s
  rotate_left
  · rw [texts_badT _ hkb hkl g3] at h; cases h
  rw [decQ_enc a.ks _ g3.1 hkl (fun x hx => okT64 (by decide) (g3.2 x hx))] at h
  simp only at h
  by_cases g4 : a.since ≤ 1152921504606846976
  rotate_left
  · rw [decU_overA _ hs (by omega)] at h; cases h
  rw [decU_encA _ hs g4] at h
  simp only at h
  by_cases g5 : a.ver ≤ 1152921504606846976
  rotate_left
  · rw [decU_overA _ hv (by omega)] at h; cases h
  rw [decU_encA _ hv g5] at h
  simp only at h
  by_cases g6 : a.xs.length ≤ 200
  rotate_left
  · rw [decQ_over (dec := decE1) (enc := encE1) (most := 200) a.xs _ (by omega) hml] at h; cases h
  by_cases g7 : ∀ x ∈ a.xs, okE x
  rotate_left
  · have h3 : ∃ x ∈ a.xs, ¬ okE x := Classical.byContradiction fun h4 => g7 fun s hs => Classical.byContradiction fun h5 => h4 ⟨s, hs, h5⟩
    obtain ⟨x, hx, h4⟩ := h3
    have hbad : ∀ y ∈ a.xs, ¬ okE y → ∀ r, decE1 (encE1 y ++ r) = none := fun y hy hk r => by
      obtain ⟨k1, k2, k3, k4⟩ := hm y hy
      exact ent_bad k1 k2 k3 k4 hk r
    rw [decQ_bad (dec := decE1) (enc := encE1) (most := 200) a.xs _ hml (fun y hy => by
      by_cases hk : okE y
      · exact .inl (decE_back hk)
      · exact .inr (hbad y hy hk)) ⟨x, hx, hbad x hx h4⟩] at h
    cases h
  rw [decQ_enc (dec := decE1) (enc := encE1) a.xs _ g6 hml (fun x hx => decE_back (g7 x hx))] at h
  simp only at h
  by_cases g8 : a.gs.length ≤ 40 ∧ ∀ s ∈ a.gs, okT 200 s
  · exact hn ⟨g1, g2, g3.1, g3.2, g4, g5, g6, g7, g8.1, g8.2⟩
  · have := texts_badT (most := 40) [] hgb hgl g8
    rw [List.append_nil] at this
    rw [this] at h; cases h
/-- Does an entity fit? -/
def entB (x : (List UInt8 × List UInt8 × List (List UInt8) × List VT)) : Bool := decide (x.1.length ≤ 32) && decide (x.2.1.length ≤ 200) && upto x.2.2.1 (x.2.2.1.length - 1)
def entsB (xs : List (List UInt8 × List UInt8 × List (List UInt8) × List VT)) : Nat → Bool
  | 0 => true
  | k + 1 => entsB xs k && ((xs[k]?).all entB)
theorem entsB_iff (xs : List (List UInt8 × List UInt8 × List (List UInt8) × List VT)) : ∀ k, k ≤ xs.length → (entsB xs k = true ↔ ∀ i (h : i < xs.length), i < k → entB xs[i] = true)
  | 0, _ => by simp [entsB]
  | k + 1, hk => by
    have ih := entsB_iff xs k (by omega)
    have hk' : k < xs.length := by omega
    simp only [entsB, Bool.and_eq_true, ih, List.getElem?_eq_getElem hk', Option.all_some]
    constructor
    · rintro ⟨h1, h2⟩ i hi hik
      by_cases e : i = k
      · subst e; exact h2
      · exact h1 i hi (by omega)
    · intro h
      exact ⟨fun i hi hik => h i hi (by omega), h k hk' (by omega)⟩
theorem boxT1 (w : World) (e0 e1 e2 e3 e4 e5 e6 : Value) : ∃ wb, wb = w.alloc (.cells #[e0, e1, e2, e3, e4, e5, e6] 83) ∧ Only (fun _ => False) w wb ∧ ∀ (S : Nat → Prop) w', Only S wb w' → ¬ S w.heap.size → w'.heap[w.heap.size]? = some (.cells #[e0, e1, e2, e3, e4, e5, e6] 83 (0, 0)) := by
  refine ⟨_, rfl, (Only.refl _ w).alloc _, fun S w' ho hS => ?_⟩
  have h := heap_new w (.cells #[e0, e1, e2, e3, e4, e5, e6] 83)
  rw [ho.block _ (Array.getElem?_eq_some_iff.1 h).1 hS]; exact h
theorem box7t {w : World} {g : Nat} {c0 c1 c2 c3 c4 c5 c6 : Value} {T : TypeId} (h : w.heap[g]? = some (.cells #[c0, c1, c2, c3, c4, c5, c6] T (0, 0))) :
    w.cell? ⟨g, 0, none⟩ = some c0 ∧ w.cell? ⟨g, 1, none⟩ = some c1 ∧ w.cell? ⟨g, 2, none⟩ = some c2 ∧ w.cell? ⟨g, 3, none⟩ = some c3 ∧ w.cell? ⟨g, 4, none⟩ = some c4 ∧ w.cell? ⟨g, 5, none⟩ = some c5 ∧ w.cell? ⟨g, 6, none⟩ = some c6 := by
  refine ⟨?_, ?_, ?_, ?_, ?_, ?_, ?_⟩ <;> simp [World.cell?, h]
/-- An entity, and the value of its fields, laid in boxes of their own. -/
theorem ebox2t (w : World) (e0 e1 e2 e3 g0 g1 g2 g3 g4 : Value) : ∃ wb, wb = (w.alloc (.cells #[e0, e1, e2, e3] 69)).alloc (.cells #[g0, g1, g2, g3, g4] 35) ∧ Only (fun _ => False) w wb ∧ w.heap.size + 2 = wb.heap.size ∧
    ∀ (S : Nat → Prop) w', Only S wb w' → (¬ S w.heap.size → w'.heap[w.heap.size]? = some (.cells #[e0, e1, e2, e3] 69 (0, 0))) ∧ (¬ S (w.heap.size + 1) → w'.rangeAt (w.heap.size + 1) 0 [g0, g1, g2, g3, g4]) := by
  refine ⟨_, rfl, ((Only.refl _ w).alloc _).alloc _, by simp, fun S w' ho => ⟨fun hS => ?_, fun hS => ?_⟩⟩
  · have h := heap_old (heap_new w (.cells #[e0, e1, e2, e3] 69)) (.cells #[g0, g1, g2, g3, g4] 35)
    rw [ho.block _ (Array.getElem?_eq_some_iff.1 h).1 hS]; exact h
  · have h := heap_new (w.alloc (.cells #[e0, e1, e2, e3] 69)) (.cells #[g0, g1, g2, g3, g4] 35)
    rw [World.size_alloc] at h
    exact range_of_block (e := 35) (fr := (0, 0)) (by rw [ho.block _ (Array.getElem?_eq_some_iff.1 h).1 hS]; exact h)
theorem tellAt_one {w : World} {G : Nat → Prop} {a : TellV} {cs : List Value} (h : TellAt w G a cs) : ∃ d0 d1 d2 d3 d4 d5 d6, cs = [d0, d1, d2, d3, d4, d5, d6] ∧ ∀ u ∈ [d0, d1, d2, d3, d4, d5, d6], u.oneCell' = true := by
  obtain ⟨ak, ck, ax, cx, ag, cg, rfl, _⟩ := h
  exact ⟨_, _, _, _, _, _, _, rfl, (by intro v hv; simp only [List.mem_cons, List.not_mem_nil, or_false] at hv; rcases hv with rfl | rfl | rfl | rfl | rfl | rfl | rfl <;> rfl)⟩
theorem encF_sumT {α : Type} (enc : α → List UInt8) (m : Nat) : ∀ (xs : List α), (∀ x ∈ xs, (enc x).length ≤ m) → (encF enc xs).length ≤ xs.length * m
  | [], _ => by simp [encF]
  | x :: xs, h => by
    have h1 := h x List.mem_cons_self
    have h2 := encF_sumT enc m xs (fun y hy => h y (List.mem_cons_of_mem _ hy))
    simp only [encF, List.length_append, List.length_cons]
    rw [Nat.add_mul, Nat.one_mul]
    omega
theorem box77 {w : World} {g : Nat} {c0 c1 c2 c3 c4 c5 c6 : Value} {T : TypeId} (h : w.heap[g]? = some (.cells #[c0, c1, c2, c3, c4, c5, c6] T (0, 0))) :
    w.cell? ⟨g, 0, none⟩ = some c0 ∧ w.cell? ⟨g, 1, none⟩ = some c1 ∧ w.cell? ⟨g, 2, none⟩ = some c2 ∧ w.cell? ⟨g, 3, none⟩ = some c3 ∧ w.cell? ⟨g, 4, none⟩ = some c4 ∧ w.cell? ⟨g, 5, none⟩ = some c5 ∧ w.cell? ⟨g, 6, none⟩ = some c6 ∧
    w.cell? ⟨g, 2, none⟩ = some c2 ∧ w.cell? ⟨g, 2 + 1, none⟩ = some c3 ∧ w.cell? ⟨g, 2 + 2, none⟩ = some c4 ∧ w.cell? ⟨g, 2 + 3, none⟩ = some c5 ∧ w.cell? ⟨g, 2 + 4, none⟩ = some c6 := by
  refine ⟨?_, ?_, ?_, ?_, ?_, ?_, ?_, ?_, ?_, ?_, ?_, ?_⟩ <;> simp [World.cell?, h]
set_option maxHeartbeats 32000000 in
theorem tells0 (c : Int) (done : Nat) (ks : List (List UInt8)) (since ver : Nat) (xs : List (List UInt8 × List UInt8 × List (List UInt8) × List VT)) (gs : List (List UInt8)) (ak : Option Addr) (ck : Nat) (ax : Option Addr) (cx : Nat) (ag : Option Addr) (cg : Nat) (w : World) (hc1 : -9223372036854775808 ≤ c) (hc2 : c ≤ 9223372036854775807) (hd : done < 18446744073709551616) (hs : since < 18446744073709551616) (hv : ver < 18446744073709551616)
    (hkf : Fits ks.length ck) (hmf : Fits xs.length cx) (hgf : Fits gs.length cg) (hk : ListAt 1 TextP w (fun q => q < w.heap.size) ak ks) (hm : ListAt 4 EntP w (fun q => q < w.heap.size) ax xs) (hg : ListAt 1 TextP w (fun q => q < w.heap.size) ag gs) (hkb : ∀ s ∈ ks, s.length ≤ 1048576) (hgb : ∀ s ∈ gs, s.length ≤ 1048576) (hmb : ∀ x ∈ xs, SmallV (objV x.2.2.1 x.2.2.2) ∧ x.1.length + x.2.1.length ≤ 1048576) (hkl : ks.length ≤ 1048576) (hgl : gs.length ≤ 1048576) :
    Calls Try.prog 15 #[.agg #[.int .i64 c, .int .u64 done, .slice ak ks.length ck, .int .u64 since, .int .u64 ver, .slice ax xs.length cx, .slice ag gs.length cg]] w fun e w' => e = .returned (.bool true) ∧ Below w.heap.size w w' := by
  obtain ⟨wb, hwb, ob, hbx⟩ := boxT1 w (.int .i64 c) (.int .u64 done) (.slice ak ks.length ck) (.int .u64 since) (.int .u64 ver) (.slice ax xs.length cx) (.slice ag gs.length cg)
  have hB : ∀ w', Only (fun _ => False) wb w' → w'.heap[w.heap.size]? = some (.cells #[.int .i64 c, .int .u64 done, .slice ak ks.length ck, .int .u64 since, .int .u64 ver, .slice ax xs.length cx, .slice ag gs.length cg] 83 (0, 0)) ∧ ListAt 1 TextP w' (fun q => q < w.heap.size) ak ks ∧ ListAt 4 EntP w' (fun q => q < w.heap.size) ax xs ∧ ListAt 1 TextP w' (fun q => q < w.heap.size) ag gs := fun w' ho =>
    ⟨hbx _ w' ho (fun h => h), hk.only textP_keeps (ob.trans ho) (fun _ _ h => h), hm.only entP_keeps (ob.trans ho) (fun _ _ h => h), hg.only textP_keeps (ob.trans ho) (fun _ _ h => h)⟩
  obtain ⟨n, hn⟩ : ∃ n, n = xs.length := ⟨_, rfl⟩
  obtain ⟨b1, hb1⟩ : ∃ b, b = decide (c < 0) := ⟨_, rfl⟩
  obtain ⟨b2, hb2⟩ : ∃ b, b = decide (300 < n) := ⟨_, rfl⟩
  obtain ⟨b3, hb3⟩ : ∃ b, b = decide (100 < ks.length + gs.length) := ⟨_, rfl⟩
  have t1 : decide (c < 0) = b1 := hb1.symm
  have t2 : decide ((300 : Int) < (n : Int)) = b2 := by rw [hb2]; exact decide_eq_decide.2 (by omega)
  have t4 : decide (300 < n) = b2 := hb2.symm
  have t3 : decide ((100 : Int) < (ks.length : Int) + (gs.length : Int)) = b3 := by rw [hb3]; exact decide_eq_decide.2 (by omega)
  have hwr : IntKind.i64.wrap ((ks.length : Int) + (gs.length : Int)) = (ks.length : Int) + (gs.length : Int) := by rw [IntKind.wrap_i64]; omega
  unfold Fits at hkf hmf hgf
  unfold maxLen at hkf hmf hgf
  have i1 : (ks.length : Int) ≤ 9223372036854775807 := by omega
  have i2 : (n : Int) ≤ 9223372036854775807 := by omega
  have i3 : (gs.length : Int) ≤ 9223372036854775807 := by omega
  rw [← hn] at hB hwb ⊢
  have HB := Lib.hid hB; have HWB := Lib.hid hwb; have OB := Lib.hid ob; have HN := Lib.hid hn; have HB1 := Lib.hid hb1; have HB2 := Lib.hid hb2; have HB3 := Lib.hid hb3; have HKF := Lib.hid hkf; have HMF := Lib.hid hmf; have HGF := Lib.hid hgf; have HKB := Lib.hid hkb; have HGB := Lib.hid hgb; have HMB := Lib.hid hmb; have HS := Lib.hid hs; have HD := Lib.hid hd; have HV := Lib.hid hv; have HC2 := Lib.hid hc2
  clear hB hwb ob hn hb1 hb2 hb3 hkf hmf hgf hkb hgb hmb hbx hk hm hg hs hd hv
  go_enter Try.func15, Try.ntmps15
  go_wp2_with fail
  rw [← HWB.out]
  refine (awk17t _).mono ?_
  rintro e w1 ⟨rfl, o1⟩
  have O1 := Lib.hid o1; clear o1
  obtain ⟨x0, x1, x2, x3, x4, x5, x6⟩ := box7 (HB.out w1 O1.out).1
  cases b1 with
  | true =>
    go_wp2_with fail
    refine (awk17t _).mono ?_
    rintro e w9 ⟨rfl, o9⟩
    have O9 := Lib.hid o9; clear o9
    go_wp2_with fail
    go_ret
    exact ⟨rfl, ((OB.out.trans O1.out).trans O9.out).still⟩
  | false =>
  cases b2 with
  | true =>
    go_wp2_with fail
    refine (awk17t _).mono ?_
    rintro e w9 ⟨rfl, o9⟩
    have O9 := Lib.hid o9; clear o9
    go_wp2_with fail
    go_ret
    exact ⟨rfl, ((OB.out.trans O1.out).trans O9.out).still⟩
  | false =>
  cases b3 with
  | true =>
    go_wp2_with fail
    refine (awk17t _).mono ?_
    rintro e w9 ⟨rfl, o9⟩
    have O9 := Lib.hid o9; clear o9
    go_wp2_with fail
    go_ret
    exact ⟨rfl, ((OB.out.trans O1.out).trans O9.out).still⟩
  | false =>
  have hc0 : 0 ≤ c := by have := HB1.out; simp at this; omega
  obtain ⟨cn, rfl⟩ := Int.eq_ofNat_of_zero_le hc0
  have hn300 : n ≤ 300 := by have := HB2.out; simp at this; omega
  have hk100 : ks.length + gs.length ≤ 100 := by have := HB3.out; simp at this; omega
  obtain ⟨f1, hf1⟩ : ∃ b, b = decide (cn < 5) := ⟨_, rfl⟩
  obtain ⟨f2, hf2⟩ : ∃ b, b = decide (done ≤ 1152921504606846976) := ⟨_, rfl⟩
  obtain ⟨f3, hf3⟩ : ∃ b, b = decide (since ≤ 1152921504606846976) := ⟨_, rfl⟩
  obtain ⟨f4, hf4⟩ : ∃ b, b = decide (ver ≤ 1152921504606846976) := ⟨_, rfl⟩
  obtain ⟨f5, hf5⟩ : ∃ b, b = shortB ks 20 32 := ⟨_, rfl⟩
  obtain ⟨f6, hf6⟩ : ∃ b, b = shortB gs 40 200 := ⟨_, rfl⟩
  obtain ⟨f7, hf7⟩ : ∃ b, b = decide (n ≤ 200) := ⟨_, rfl⟩
  have s1 : decide ((cn : Int) < 5) = f1 := by rw [hf1]; exact decide_eq_decide.2 (by omega)
  have s1' : decide (cn < 5) = f1 := hf1.symm
  have s2 : decide ((done : Int) ≤ 1152921504606846976) = f2 := by rw [hf2]; exact decide_eq_decide.2 (by omega)
  have s2' : decide (done ≤ 1152921504606846976) = f2 := hf2.symm
  have s3 : decide ((since : Int) ≤ 1152921504606846976) = f3 := by rw [hf3]; exact decide_eq_decide.2 (by omega)
  have s3' : decide (since ≤ 1152921504606846976) = f3 := hf3.symm
  have s4 : decide ((ver : Int) ≤ 1152921504606846976) = f4 := by rw [hf4]; exact decide_eq_decide.2 (by omega)
  have s4' : decide (ver ≤ 1152921504606846976) = f4 := hf4.symm
  have s7 : decide ((n : Int) ≤ 200) = f7 := by rw [hf7]; exact decide_eq_decide.2 (by omega)
  have s7' : decide (n ≤ 200) = f7 := hf7.symm
  have hsh1 := fun w' (ho : Only (fun _ => False) wb w') => short_any ks ak ck 20 32 _ w' (HB.out w' ho).2.1 (by omega) (by decide) (by decide) (fun s hs => by have := HKB.out s hs; omega)
  have hsh2 := fun w' (ho : Only (fun _ => False) wb w') => short_any gs ag cg 40 200 _ w' (HB.out w' ho).2.2.2 (by omega) (by decide) (by decide) (fun s hs => by have := HGB.out s hs; omega)
  rw [← hf5] at hsh1
  rw [← hf6] at hsh2
  obtain ⟨fit, hfit⟩ : ∃ b, b = (f1 && f2 && f3 && f4 && f5 && f6 && f7) := ⟨_, rfl⟩
  have HF1 := Lib.hid hf1; have HF2 := Lib.hid hf2; have HF3 := Lib.hid hf3; have HF4 := Lib.hid hf4; have HF5 := Lib.hid hf5; have HF6 := Lib.hid hf6; have HF7 := Lib.hid hf7; have HSH1 := Lib.hid hsh1; have HSH2 := Lib.hid hsh2; have HFIT := Lib.hid hfit; have HN300 := Lib.hid hn300; have HK100 := Lib.hid hk100
  clear hf1 hf2 hf3 hf4 hf5 hf6 hf7 hsh1 hsh2 hfit hn300 hk100 hc0
  go_upto_region 3 with (fail)
  go_cut [3] from 40 (fun v w' => v = .bool fit ∧ Hid (Only (fun _ => False) wb w'))
  case first =>
    cases f1 with
    | false =>
      go_wp2_with fail
      go_meet
      case rel => exact ⟨by rw [HFIT.out]; rfl, O1⟩
    | true =>
    cases f2 with
    | false =>
      go_wp2_with fail
      go_meet
      case rel => exact ⟨by rw [HFIT.out]; rfl, O1⟩
    | true =>
    cases f3 with
    | false =>
      go_wp2_with fail
      go_meet
      case rel => exact ⟨by rw [HFIT.out]; rfl, O1⟩
    | true =>
    cases f4 with
    | false =>
      go_wp2_with fail
      go_meet
      case rel => exact ⟨by rw [HFIT.out]; rfl, O1⟩
    | true =>
    go_wp2_with fail
    refine (HSH1.out _ O1.out).mono ?_
    rintro e w2 ⟨rfl, rfl⟩
    cases f5 with
    | false =>
      go_wp2_with fail
      go_meet
      case rel => exact ⟨by rw [HFIT.out]; rfl, O1⟩
    | true =>
    go_wp2_with fail
    refine (HSH2.out _ O1.out).mono ?_
    rintro e w3 ⟨rfl, rfl⟩
    cases f6 <;> cases f7
    all_goals
      go_wp2_with fail
      go_meet
      case rel => exact ⟨by rw [HFIT.out]; rfl, O1⟩
  case rest =>
  obtain ⟨rfl, HOC⟩ := hcut
  clear x0 x1 x2 x3 x4 x5 x6 s1 s1' s2 s2' s3 s3' s4 s4' s7 s7' t1 t2 t3 t4 HSH1 HSH2
  have hz1 := zero_V
  have hz2 := zero_Ent
  have HZ1 := Lib.hid hz1; have HZ2 := Lib.hid hz2
  clear hz1 hz2
  go_wp2_with fail
  go_loopw [3, 4] (fun v x wr => ∃ (i : Nat) (fb : Bool), v = .bool fb ∧ x = .int .i64 (i : Int) ∧ i ≤ n ∧ Hid (fb = (fit && entsB xs i)) ∧ Hid (∀ j (h : j < xs.length), j < i → greatV (objV xs[j].2.2.1 xs[j].2.2.2) = false ∧ formV (objV xs[j].2.2.1 xs[j].2.2.2) 0 = true) ∧ Hid (Only (fun _ => False) wb wr)) (fun _ x _ => n - (intOf x).toNat)
  case atStart => exact ⟨0, fit, rfl, rfl, Nat.zero_le _, Lib.hid (by simp [entsB]), Lib.hid (fun j h hj => by omega), HOC⟩
  case round =>
    obtain ⟨i, fb, rfl, rfl, hi, HFB, HAL, HO⟩ := hrel
    obtain ⟨x0, x1, x2, x3, x4, x5, x6⟩ := box7 (HB.out wr HO.out).1
    by_cases hlt : i < n
    · have t1 : decide ((i : Int) < (n : Int)) = true := by simpa using hlt
      have hi0 : (0 : Int) ≤ (i : Int) := by omega
      have hi1 : (i : Int) < (n : Int) := by omega
      have hki : i < xs.length := by rw [← HN.out]; exact hlt
      obtain ⟨g, off, cs, ha, hg, hb, hcl, hr, hp⟩ := (HB.out wr HO.out).2.2.1.get i hki
      subst ha
      have hnext : ∀ q : Bool, q = entB xs[i] → (fb && q) = (fit && entsB xs (i + 1)) := fun q h => by
        simp only [entsB, List.getElem?_eq_getElem hki, Option.all_some]
        rw [← h, HFB.out, Bool.and_assoc]
      have hall : greatV (objV xs[i].2.2.1 xs[i].2.2.2) = false → formV (objV xs[i].2.2.1 xs[i].2.2.2) 0 = true → ∀ j (h : j < xs.length), j < i + 1 → greatV (objV xs[j].2.2.1 xs[j].2.2.2) = false ∧ formV (objV xs[j].2.2.1 xs[j].2.2.2) 0 = true := fun h1 h2 j hj hji => by
        by_cases e : j = i
        · subst e; exact ⟨h1, h2⟩
        · exact HAL.out j hj (by omega)
      obtain ⟨⟨ty, id, K, vs⟩, hx⟩ : ∃ x, x = xs[i] := ⟨_, rfl⟩
      rw [← hx] at hp hnext hall
      obtain ⟨aK, aV, cK, cV, rfl, e1, e2, e3⟩ := hp
      try simp only at e1
      try simp only at e2
      try simp only at e3
      try simp only at hr
      try simp only at hnext
      try simp only at hall
      have hkc : K.length ≤ 9223372036854775807 := by
        have h := e3
        unfold objV at h
        simp only [ValAt] at h
        obtain ⟨_, _, _, _, e, _, _, _, h4, _⟩ := h
        simp only [List.cons.injEq, and_true] at e
        obtain ⟨-, -, -, e4, -⟩ := e
        injection e4 with _ _ e43
        omega
      obtain ⟨y0, y1, y2, y3⟩ := range4p hr
      obtain ⟨wx, hwx, ox, hsz, hbx⟩ := ebox2t wr (.string ⟨ty.toArray⟩) (.string ⟨id.toArray⟩) (.slice aK K.length cK) (.slice aV vs.length cV) (.int .u8 6) (.int .i64 0) (.string ByteArray.empty) (.slice aK K.length cK) (.slice aV vs.length cV)
      have hV : ∀ w', Only (fun _ => False) wx w' → ValAt w' (fun q => q < w.heap.size) (objV K vs) [.int .u8 6, .int .i64 0, .string ByteArray.empty, .slice aK K.length cK, .slice aV vs.length cV] := fun w' ho => valAt_only (S := fun _ => False) (ox.trans ho) (fun _ _ h => h) _ _ e3
      obtain ⟨gm, hgm⟩ : ∃ gm, gm = greatV (objV K vs) := ⟨_, rfl⟩
      obtain ⟨fm, hfm⟩ : ∃ fm, fm = formV (objV K vs) 0 := ⟨_, rfl⟩
      obtain ⟨s1, hs1⟩ : ∃ b, b = decide (ty.length ≤ 32) := ⟨_, rfl⟩
      obtain ⟨s2, hs2⟩ : ∃ b, b = decide (id.length ≤ 200) := ⟨_, rfl⟩
      obtain ⟨q0, hq0⟩ : ∃ q0, q0 = (fb && (s1 && s2)) := ⟨_, rfl⟩
      have z1 : decide ((ty.length : Int) ≤ 32) = s1 := by rw [hs1]; exact decide_eq_decide.2 (by omega)
      have z1' : decide (ty.length ≤ 32) = s1 := hs1.symm
      have z2 : decide ((id.length : Int) ≤ 200) = s2 := by rw [hs2]; exact decide_eq_decide.2 (by omega)
      have z2' : decide (id.length ≤ 200) = s2 := hs2.symm
      have hsz1 : (⟨ty.toArray⟩ : ByteArray).size = ty.length := by simp [ByteArray.size]
      have hsz2 : (⟨id.toArray⟩ : ByteArray).size = id.length := by simp [ByteArray.size]
      have hd1 : (ty.length : Int) ≤ 9223372036854775807 := by unfold maxLen at e1; omega
      have hd2 : (id.length : Int) ≤ 9223372036854775807 := by unfold maxLen at e2; omega
      have hd3 : (K.length : Int) ≤ 9223372036854775807 := by omega
      have hnx := hnext ((s1 && s2) && upto K (K.length - 1)) (by simp only [entB]; rw [hs1, hs2])
      have hgr := rGreat (objV K vs) _ wx _ (hV wx (Only.refl _ _))
      have hfo : ∀ w', Only (fun _ => False) wx w' → Calls Try.prog 24 #[.agg #[.int .u8 6, .int .i64 0, .string ByteArray.empty, .slice aK K.length cK, .slice aV vs.length cV], .int .i64 0] w' _ := fun w' ho => rForm _ (objV K vs) (Nat.le_refl _) _ w' _ 0 (hV w' ho) (by omega)
      rw [← hgm] at hgr
      rw [← hfm] at hfo
      rw [← hgm, ← hfm] at hall
      have HGR := Lib.hid hgr; have HFO := Lib.hid hfo; have HV := Lib.hid hV; have HNX := Lib.hid hnx; have HALL := Lib.hid hall; have HWX := Lib.hid hwx; have OX := Lib.hid ox; have HBX := Lib.hid hbx; have HQ0 := Lib.hid hq0
      clear hgr hfo hV hnx hall hnext hwx ox hsz hbx hq0 hgm hfm hs1 hs2 hx e1 e2 e3 hr hg hki hkc
      have hz1 := HZ1.out
      have hz2 := HZ2.out
      go_wp2_with fail
      rw [← HWX.out]
      clear hz1 hz2
      refine HGR.out.mono ?_
      rintro e w5 ⟨rfl, o5⟩
      have O5 := Lib.hid o5; clear o5 x0 x1 x2 x3 x4 x5 x6 y0 y1 y2 y3 HGR
      cases gm with
      | true =>
        go_wp2_with fail
        go_ret
        exact ⟨rfl, (((OB.out.trans HO.out).trans OX.out).trans O5.out).still⟩
      | false =>
      obtain ⟨c0, c1, c2, c3, c4⟩ := range5 ((HBX.out _ w5 O5.out).2 (fun h => h))
      have HFO5 := Lib.hid (HFO.out w5 O5.out)
      go_wp2_with fail
      refine HFO5.out.mono ?_
      rintro e w6 ⟨rfl, o6⟩
      have O6 := Lib.hid (O5.out.trans o6)
      clear o6 c0 c1 c2 c3 c4 HFO HFO5
      cases fm with
      | false =>
        go_wp2_with fail
        go_ret
        exact ⟨rfl, (((OB.out.trans HO.out).trans OX.out).trans O6.out).still⟩
      | true =>
      obtain ⟨y0, y1, y2, y3⟩ := box4 ((HBX.out _ w6 O6.out).1 (fun h => h))
      have HALL2 : Hid (∀ j (h : j < xs.length), j < i + 1 → greatV (objV xs[j].2.2.1 xs[j].2.2.2) = false ∧ formV (objV xs[j].2.2.1 xs[j].2.2.2) 0 = true) := Lib.hid (HALL.out (by first | rfl | trivial) (by first | rfl | trivial))
      clear HALL
      go_upto_region 11 with (fail)
      go_cut [3] from 79 to 139 (fun v w' => v = .bool q0 ∧ Hid (Only (fun _ => False) wx w'))
      case first =>
        cases fb with
        | false =>
          go_wp2_with fail
          go_meet
          case rel => exact ⟨by rw [HQ0.out]; rfl, O6⟩
        | true =>
        cases s1 with
        | false =>
          go_wp2_with fail
          go_meet
          case rel => exact ⟨by rw [HQ0.out]; rfl, O6⟩
        | true =>
        cases s2
        all_goals
          go_wp2_with fail
          go_meet
          case rel => exact ⟨by rw [HQ0.out]; rfl, O6⟩
      case rest =>
      obtain ⟨rfl, HOC2⟩ := hcut
      clear y0 y1 y2 y3 z1 z1' z2 z2' hsz1 hsz2 hd1 hd2 t1
      go_wp2_with fail
      go_loopw [3, 7] (fun v x wi => ∃ (k : Nat) (rb : Bool), v = .bool rb ∧ x = .int .i64 ((k : Int) + 1) ∧ k ≤ K.length - 1 ∧ Hid (rb = (q0 && upto K k)) ∧ Hid (Only (fun _ => False) wx wi)) (fun _ x _ => K.length + 1 - (intOf x).toNat)
      case atStart => exact ⟨0, q0, rfl, rfl, Nat.zero_le _, Lib.hid (by simp [upto]), HOC2⟩
      case round =>
        obtain ⟨k, rb, rfl, rfl, hk, HRB, HOI⟩ := hrel
        obtain ⟨y0, y1, y2, y3⟩ := box4 ((HBX.out _ _ HOI.out).1 (fun h => h))
        by_cases hlt2 : k + 1 < K.length
        · have t2 : decide ((k : Int) + 1 < (K.length : Int)) = true := by simp; omega
          have htx := texts_of (HV.out _ HOI.out)
          obtain ⟨tb, toff, ha, hbt, hc1⟩ := htx.cells hlt2
          obtain ⟨tb', toff', ha', _, hc0⟩ := htx.cells (show k < K.length by omega)
          subst ha
          injection ha' with ha'
          injection ha' with e1 e2
          subst e1; subst e2
          have hnx : ∀ q, q = (rb && Op.bytesLess K[k] K[k + 1]) → q = (q0 && upto K (k + 1)) := fun q hq => by
            simp only [upto]
            rw [getD_get hlt2, getD_get (show k < K.length by omega), ← Bool.and_assoc, ← HRB.out]; exact hq
          have HNX2 := Lib.hid hnx; clear hnx htx
          generalize K[k + 1] = k1 at *
          generalize K[k] = k0 at *
          have hj00 : (0 : Int) ≤ (k : Int) := by omega
          have hj01 : (0 : Int) ≤ (k : Int) + 1 := by omega
          have hj02 : (k : Int) + 1 < (K.length : Int) := by omega
          have hj03 : (k : Int) < (K.length : Int) := by omega
          have hw1 : IntKind.i64.wrap ((k : Int) + 1 - 1) = (k : Int) := by rw [IntKind.wrap_i64]; omega
          have hw2 : IntKind.i64.wrap (k : Int) = (k : Int) := by rw [IntKind.wrap_i64]; omega
          cases rb with
          | true =>
            go_wp2_with fail
            go_quiet (fail)
            go_wp2_with fail
            go_roundw
            case rel => exact ⟨k + 1, Op.bytesLess k0 k1, by simp [go_sem], by simp [go_sem], by omega, Lib.hid (HNX2.out _ (by simp)), Lib.hid (HOI.out.drewN _)⟩
            case measure => simp [intOf]; omega
          | false =>
            go_wp2_with fail
            go_quiet (fail)
            go_wp2_with fail
            go_roundw
            case rel => exact ⟨k + 1, false, by simp [go_sem], by simp [go_sem], by omega, Lib.hid (HNX2.out _ (by simp)), Lib.hid (HOI.out.drewN _)⟩
            case measure => simp [intOf]; omega
        · have t2 : decide ((k : Int) + 1 < (K.length : Int)) = false := by simp; omega
          have hrb : rb = (fit && entsB xs (i + 1)) := by
            rw [HRB.out, HQ0.out, show k = K.length - 1 from by omega, Bool.and_assoc]
            exact HNX.out
          have HRB2 := Lib.hid hrb; clear hrb
          go_wp2_with fail
          go_roundw
          case rel => exact ⟨i + 1, rb, by simp [go_sem], by simp [go_sem], by omega, HRB2, HALL2, Lib.hid ((HO.out.trans OX.out).trans HOI.out)⟩
          case measure => simp [intOf]; omega
    · have t1 : decide ((i : Int) < (n : Int)) = false := by simp; omega
      obtain rfl : n = i := by omega
      have hal : ∀ x ∈ xs, greatV (objV x.2.2.1 x.2.2.2) = false ∧ formV (objV x.2.2.1 x.2.2.2) 0 = true := fun x hx => by
        obtain ⟨j, hj, rfl⟩ := List.getElem_of_mem hx
        exact HAL.out j hj (by have := HN.out; omega)
      have hvl : ∀ x ∈ xs, GoodV (objV x.2.2.1 x.2.2.2) ∧ (encV (objV x.2.2.1 x.2.2.2)).length ≤ 900000 := fun x hx => ⟨form_good _ 0 (hal x hx).2, form_len (HMB.out x hx).1 (hal x hx).1 (hal x hx).2⟩
      have hks := HK100.out; have hns := HN300.out; have hnm := HN.out
      have hbk := encF_sumT encT 1048586 ks (fun s hs => by have := HKB.out s hs; have := encU_len10 (n := s.length) (by omega); unfold encT; rw [List.length_append]; omega)
      have hbg := encF_sumT encT 1048586 gs (fun s hs => by have := HGB.out s hs; have := encU_len10 (n := s.length) (by omega); unfold encT; rw [List.length_append]; omega)
      have hbm := encF_sumT encE1 1948626 xs (fun x hx => by
        have h1 := (hvl x hx).2; have h2 := (HMB.out x hx).2
        have h3 := encU_len10 (n := x.1.length) (by omega); have h4 := encU_len10 (n := x.2.1.length) (by omega)
        unfold encE1 encE encT
        simp only [List.length_append]
        omega)
      have hcb := HC2.out
      have hel : (encTell ⟨cn, done, ks, since, ver, xs, gs⟩).length ≤ 800000000 := by
        have e1 := encU_len10 (n := 2) (by decide); have e2 := encU_len10 (n := cn) (by omega); have e3 := encU_len10 (n := done) HD.out; have e4 := encU_len10 (n := since) HS.out; have e5 := encU_len10 (n := ver) HV.out; have e6 := encU_len10 (n := ks.length) (by omega); have e7 := encU_len10 (n := xs.length) (by omega); have e8 := encU_len10 (n := gs.length) (by omega)
        unfold encTell encQ
        simp only [List.length_append]
        omega
      have hA : ∀ w', Only (fun _ => False) wb w' → TellAt w' (fun q => q < w.heap.size) ⟨cn, done, ks, since, ver, xs, gs⟩ [.int .i64 cn, .int .u64 done, .slice ak ks.length ck, .int .u64 since, .int .u64 ver, .slice ax n cx, .slice ag gs.length cg] := fun w' ho => ⟨ak, ck, ax, cx, ag, cg, by rw [HN.out], (by show cn ≤ _; omega), HD.out, HS.out, HV.out, (by unfold Fits maxLen; exact HKF.out), (by unfold Fits maxLen; exact HMF.out), (by unfold Fits maxLen; exact HGF.out), (HB.out w' ho).2.1, (HB.out w' ho).2.2.1, (HB.out w' ho).2.2.2⟩
      have hgv : ∀ x ∈ xs, GoodV (objV x.2.2.1 x.2.2.2) ∧ (encV (objV x.2.2.1 x.2.2.2)).length ≤ 1000000 ∧ x.1.length ≤ 100000000 ∧ x.2.1.length ≤ 100000000 := fun x hx => ⟨(hvl x hx).1, by have := (hvl x hx).2; omega, by have := (HMB.out x hx).2; omega, by have := (HMB.out x hx).2; omega⟩
      have henc := wEncTellB ⟨cn, done, ks, since, ver, xs, gs⟩ _ wr _ (hA wr HO.out) (fun q hq => Nat.lt_of_lt_of_le hq (Nat.le_trans OB.out.size HO.out.size)) hgv ⟨(by show ks.length ≤ _; omega), (by show xs.length ≤ _; omega), (by show gs.length ≤ _; omega)⟩ (by omega)
      have hra := fun w' (G : Nat → Prop) (cs : List Value) (ha : TellAt w' G ⟨cn, done, ks, since, ver, xs, gs⟩ cs) => rTell ⟨cn, done, ks, since, ver, xs, gs⟩ G w' cs ha hgv ⟨(by show ks.length ≤ _; omega), (by show xs.length ≤ _; omega), (by show gs.length ≤ _; omega)⟩ (by omega)
      have hok : fb = true ↔ okTell ⟨cn, done, ks, since, ver, xs, gs⟩ := by
        rw [HFB.out, HFIT.out, HF1.out, HF2.out, HF3.out, HF4.out, HF5.out, HF6.out, HF7.out]
        simp only [Bool.and_eq_true, decide_eq_true_eq, shortB_iff, entsB_iff xs n (by omega)]
        unfold okTell okT
        constructor
        · rintro ⟨⟨⟨⟨⟨⟨⟨h1, h2⟩, h3⟩, h4⟩, h5, h5'⟩, h6, h6'⟩, h7⟩, h8⟩
          refine ⟨by show cn ≤ 4; omega, h2, h5', h5, h3, h4, (by show xs.length ≤ 200; omega), fun x hx => ?_, h6', h6⟩
          obtain ⟨j, hj, rfl⟩ := List.getElem_of_mem hx
          have h9 := h8 j hj (by have hj2 : j < xs.length := hj; omega)
          unfold entB at h9
          simp only [Bool.and_eq_true, decide_eq_true_eq, rising_iff] at h9
          exact ⟨h9.1.1, h9.1.2, (hal _ hx).2, (HMB.out _ hx).1, h9.2⟩
        · rintro ⟨h1, h2, h3, h4, h5, h6, h7, h8, h9, h10⟩
          refine ⟨⟨⟨⟨⟨⟨⟨(by have h1' : cn ≤ 4 := h1; omega), h2⟩, h5⟩, h6⟩, h4, h3⟩, h10, h9⟩, (by have h7' : xs.length ≤ 200 := h7; omega)⟩, fun j hj _ => ?_⟩
          have h := h8 xs[j] (List.getElem_mem _)
          unfold entB
          simp only [Bool.and_eq_true, decide_eq_true_eq, rising_iff]
          exact ⟨⟨h.1, h.2.1⟩, h.2.2.2.2⟩
      have hyes : fb = true → TellOf (encTell ⟨cn, done, ks, since, ver, xs, gs⟩) ⟨cn, done, ks, since, ver, xs, gs⟩ := fun h => tell_back (hok.1 h)
      have hno : fb = false → ∀ a', ¬ TellOf (encTell ⟨cn, done, ks, since, ver, xs, gs⟩) a' := fun h => tell_none (a := ⟨cn, done, ks, since, ver, xs, gs⟩) (by show cn < _; omega) HD.out (by show ks.length < _; omega) (fun s hs => by have := HKB.out s hs; omega) HS.out HV.out (by show xs.length < _; omega) (fun x hx => ⟨by have := (HMB.out x hx).2; omega, by have := (HMB.out x hx).2; omega, (hal x hx).2, (HMB.out x hx).1⟩) (by show gs.length < _; omega) (fun s hs => by have := HGB.out s hs; omega) (fun hk => by have := hok.2 hk; rw [h] at this; cases this)
      obtain ⟨x0, x1, x2, x3, x4, x5, x6, X2, X3, X4, X5, X6⟩ := box77 (HB.out wr HO.out).1
      obtain ⟨E0, hE0⟩ : ∃ E0, E0 = encTell ⟨cn, done, ks, since, ver, xs, gs⟩ := ⟨_, rfl⟩
      obtain ⟨L0, hL0⟩ : ∃ L0, L0 = sealed E0 := ⟨_, rfl⟩
      rw [← hE0] at hel henc hra hyes hno
      rw [← hL0] at henc
      have hL0l : L0.length ≤ 800000004 := by rw [hL0, sealed_len]; omega
      have HEL := Lib.hid hel; have HA := Lib.hid hA; have HENC := Lib.hid henc; have HRA0 := Lib.hid hra; have HYES := Lib.hid hyes; have HNO := Lib.hid hno; have HL0 := Lib.hid hL0; have HLL := Lib.hid hL0l
      clear hks hns hnm hbk hbm hbg hcb hel hA hgv henc hra hok hyes hno hE0 hL0 hL0l hal hvl
      have hra2 : ∀ w', Only (fun _ => False) wb w' → Calls Try.prog 56 #[.agg #[.int .i64 cn, .int .u64 done, .slice ak ks.length ck, .int .u64 since, .int .u64 ver, .slice ax n cx, .slice ag gs.length cg]] w' (Makes w' E0) := fun w' ho => HRA0.out w' _ _ (HA.out w' ho)
      have HRA := Lib.hid hra2; clear hra2
      go_wp2_with fail
      refine HENC.out.mono ?_
      rintro e w5 ⟨v5, rfl, h5, o5⟩
      obtain ⟨a5, c5, rfl⟩ := h5.form
      have HB5 := Lib.hid h5.bytes; have O5 := Lib.hid (HO.out.trans o5)
      have hda := dcdt_any _ L0 w5 HB5.out (by have := HLL.out; omega)
      have HDA := Lib.hid hda; clear hda h5 o5 x0 x1 x2 x3 x4 x5 x6 X2 X3 X4 X5 X6
      go_wp2_with fail
      refine HDA.out.mono ?_
      rintro e w6 ⟨o6, hcase⟩
      have hz6 := heap_new w6 (.cells #[.int .i64 0, .int .u64 0, .slice none 0 0, .int .u64 0, .int .u64 0, .slice none 0 0, .slice none 0 0] 83)
      have oz6 := (Only.refl (fun _ => False) w6).alloc (.cells #[.int .i64 0, .int .u64 0, .slice none 0 0, .int .u64 0, .int .u64 0, .slice none 0 0, .slice none 0 0] 83)
      have HZ6 := Lib.hid hz6; have OZ6 := Lib.hid oz6; clear hz6 oz6
      cases fb with
      | false =>
        have hno := HNO.out (by first | rfl | trivial)
        have hce : e = .returned (.tuple #[.agg #[.int .i64 0, .int .u64 0, .slice none 0 0, .int .u64 0, .int .u64 0, .slice none 0 0, .slice none 0 0], .int .i64 3]) := by
          rcases hcase with ⟨cc, h1, h2, rfl⟩ | ⟨m, h1, h2, rfl⟩ | ⟨m, a', cs, h1, h2, rfl, h3⟩
          · exact absurd (sealed_codeT ⟨E0, HL0.out⟩ h1) h2
          · rfl
          · have := sealed_inj (HL0.out.symm.trans h1)
            subst this
            exact absurd h2 (hno _)
        subst hce
        clear hcase hno
        have H1A : Hid (∀ u ∈ ([.int .i64 0, .int .u64 0, .slice none 0 0, .int .u64 0, .int .u64 0, .slice none 0 0, .slice none 0 0] : List Value), u.oneCell' = true) := Lib.hid (by intro v hv; simp only [List.mem_cons, List.not_mem_nil, or_false] at hv; rcases hv with rfl | rfl | rfl | rfl | rfl | rfl | rfl <;> rfl)
        have O6 := Lib.hid o6; clear o6
        go_wp2_with ((refine wpList_store_box (o := ⟨none, _, _, _, _, _⟩) rfl 83 (.tmp 9) (.tmp 145) (by rfl) w6.heap.size [.int .i64 0, .int .u64 0, .slice none 0 0, .int .u64 0, .int .u64 0, .slice none 0 0, .slice none 0 0] [.int .i64 0, .int .u64 0, .slice none 0 0, .int .u64 0, .int .u64 0, .slice none 0 0, .slice none 0 0] (by rfl) (by rfl) HZ6.out rfl (by kernel_rfl) H1A.out ?_; intro w7 h7x o7x))
        have o67 : Only (fun _ => False) w6 w7 := OZ6.out.trans' o7x (fun q hq e => by omega)
        have H67 := Lib.hid h7x; have O7 := Lib.hid ((O5.out.trans O6.out).trans o67); have HB7 := Lib.hid ((HB5.out.still O6.out).still o67); clear o67 h7x o7x
        refine wp_region_steps 6 (by kernel_rfl) rfl (by kernel_rfl) [some 147, some 148, some 149, some 150, some 151, some 152] rfl rfl (fun _ => False) [(fun v _ => v = (.slice a5 L0.length c5)), (fun v _ => v = (.string ⟨L0.toArray⟩)), (fun v _ => v = (.agg #[.int .i64 cn, .int .u64 done, .slice ak ks.length ck, .int .u64 since, .int .u64 ver, .slice ax n cx, .slice ag gs.length cg])), (fun v w1 => Bytes w1 v E0), (fun v w1 => Bytes w1 v L0), (fun v _ => v = (.string ⟨L0.toArray⟩))] rfl ⟨?_, ?_, ?_, ?_, ?_, ?_, trivial⟩ _ rfl ⟨?_, ?_, ?_, ?_, ?_, ?_, trivial⟩ ?_
        · exact Stable.is _ _
        · exact Stable.is _ _
        · exact Stable.is _ _
        · exact (fun v w1 w2 h ho => h.still ho)
        · exact (fun v w1 w2 h ho => h.still ho)
        · exact Stable.is _ _
        · intro x wx ox hN TT HTT
          clear hN
          unfold StepTo
          simp only [putAll, Act.put, List.setIfInBounds_toArray, List.set_cons_succ, List.set_cons_zero]
          go_wp2_with fail
          exact ⟨rfl, _, rfl, HTT.out _ _ (rfl) (Only.refl _ _)⟩
        · intro x wx ox hN TT HTT
          have r147 : x 0 = (.slice a5 L0.length c5) := hN.1 rfl
          clear hN
          unfold StepTo
          simp only [putAll, Act.put, List.setIfInBounds_toArray, List.set_cons_succ, List.set_cons_zero, r147]
          clear r147
          have hcv := (HB7.out.still (((Only.refl _ w7).drew).trans ox)).conv
          go_wp2_with fail
          exact ⟨rfl, _, rfl, HTT.out _ _ (rfl) (Only.refl _ _)⟩
        · intro x wx ox hN TT HTT
          clear hN
          unfold StepTo
          simp only [putAll, Act.put, List.setIfInBounds_toArray, List.set_cons_succ, List.set_cons_zero]
          obtain ⟨x0, x1, x2, x3, x4, x5, x6, X2, X3, X4, X5, X6⟩ := box77 (HB.out wx (O7.out.trans (((Only.refl _ w7).drew).trans ox))).1
          go_wp2_with fail
          exact ⟨rfl, _, rfl, HTT.out _ _ (rfl) (Only.refl _ _)⟩
        · intro x wx ox hN TT HTT
          have r149 : x 2 = (.agg #[.int .i64 cn, .int .u64 done, .slice ak ks.length ck, .int .u64 since, .int .u64 ver, .slice ax n cx, .slice ag gs.length cg]) := hN.1 rfl
          clear hN
          unfold StepTo
          simp only [putAll, Act.put, List.setIfInBounds_toArray, List.set_cons_succ, List.set_cons_zero, r149]
          clear r149
          have hc := HRA.out wx (O7.out.trans (((Only.refl _ w7).drew).trans ox))
          have HC := Lib.hid hc; clear hc
          go_wp2_with fail
          refine HC.out.mono ?_
          rintro e w6' ⟨v6, rfl, h6, o6⟩
          go_wp2_with fail
          exact ⟨rfl, _, rfl, HTT.out _ _ (h6.bytes) (o6)⟩
        · intro x wx ox hN TT HTT
          have r150 : (fun (v : Value) (w1 : World) => Bytes w1 v E0) (x 3) wx := hN.1 rfl
          clear hN
          unfold StepTo
          simp only [putAll, Act.put, List.setIfInBounds_toArray, List.set_cons_succ, List.set_cons_zero]
          have hc := rSeal _ _ wx r150 (by have := HEL.out; omega)
          rw [← HL0.out] at hc
          have HC := Lib.hid hc; clear hc
          go_wp2_with fail
          refine HC.out.mono ?_
          rintro e w6' ⟨v6, rfl, h6, o6⟩
          go_wp2_with fail
          exact ⟨rfl, _, rfl, HTT.out _ _ (h6.bytes) (o6)⟩
        · intro x wx ox hN TT HTT
          have r151 : (fun (v : Value) (w1 : World) => Bytes w1 v L0) (x 4) wx := hN.1 rfl
          clear hN
          unfold StepTo
          simp only [putAll, Act.put, List.setIfInBounds_toArray, List.set_cons_succ, List.set_cons_zero]
          have hcv := r151.conv
          go_wp2_with fail
          exact ⟨rfl, _, rfl, HTT.out _ _ (rfl) (Only.refl _ _)⟩
        intro xa wxa oxa hN
        have r147 : xa 0 = (.slice a5 L0.length c5) := hN.1
        have r148 : xa 1 = (.string ⟨L0.toArray⟩) := hN.2.1
        have r149 : xa 2 = (.agg #[.int .i64 cn, .int .u64 done, .slice ak ks.length ck, .int .u64 since, .int .u64 ver, .slice ax n cx, .slice ag gs.length cg]) := hN.2.2.1
        have r150 : (fun (v : Value) (w1 : World) => Bytes w1 v E0) (xa 3) wxa := hN.2.2.2.1
        have r151 : (fun (v : Value) (w1 : World) => Bytes w1 v L0) (xa 4) wxa := hN.2.2.2.2.1
        have r152 : xa 5 = (.string ⟨L0.toArray⟩) := hN.2.2.2.2.2.1
        clear hN
        simp only [putAll, Act.put, List.setIfInBounds_toArray, List.set_cons_succ, List.set_cons_zero, r147, r148, r149, r152]
        clear r147 r148 r149 r152
        have o7a := ((Only.refl (fun _ => False) w7).drew).trans oxa
        have O8 := Lib.hid (O7.out.trans o7a)
        have H6A := Lib.hid ((o7a.block _ (Array.getElem?_eq_some_iff.1 H67.out).1 (fun h => h)).trans H67.out)
        obtain ⟨z0, z1, z2, z3, z4, z5, z6, Z2, Z3, Z4, Z5, Z6⟩ := box77 H6A.out
        clear oxa o7a r150 r151
        go_wp2_with fail
        go_ret
        exact ⟨rfl, (OB.out.trans O8.out).still⟩
      | true =>
        have hyes := HYES.out (by first | rfl | trivial)
        have hcs : ∃ cs, e = .returned (.tuple #[.agg cs.toArray, .int .i64 0]) ∧ TellAt w6 (fun q => w5.heap.size ≤ q) ⟨cn, done, ks, since, ver, xs, gs⟩ cs := by
          rcases hcase with ⟨cc, h1, h2, rfl⟩ | ⟨m, h1, h2, rfl⟩ | ⟨m, a', cs, h1, h2, rfl, h3⟩
          · exact absurd (sealed_codeT ⟨E0, HL0.out⟩ h1) h2
          · have := sealed_inj (HL0.out.symm.trans h1)
            subst this
            exact absurd hyes (h2 _)
          · have := sealed_inj (HL0.out.symm.trans h1)
            subst this
            have := tell_one hyes h2
            subst this
            exact ⟨cs, rfl, h3⟩
        obtain ⟨cs6, rfl, hat6⟩ := hcs
        obtain ⟨d0, d1, d2, d3, d4, d5, d6, rfl, h1a⟩ := tellAt_one hat6
        have H1A := Lib.hid h1a; have HAT6 := Lib.hid hat6; have O6 := Lib.hid o6; have HY := Lib.hid hyes; clear hcase hyes h1a hat6 o6
        have hzz := zero_Tell
        go_wp2_with ((refine wpList_store_box (o := ⟨none, _, _, _, _, _⟩) rfl 83 (.tmp 9) (.tmp 145) (by rfl) w6.heap.size [.int .i64 0, .int .u64 0, .slice none 0 0, .int .u64 0, .int .u64 0, .slice none 0 0, .slice none 0 0] [d0, d1, d2, d3, d4, d5, d6] (by rfl) (by rfl) HZ6.out rfl (by kernel_rfl) H1A.out ?_; intro w7 h7x o7x; clear hzz))
        have o67 : Only (fun _ => False) w6 w7 := OZ6.out.trans' o7x (fun q hq e => by omega)
        have H67 := Lib.hid h7x; have O67 := Lib.hid o67; have O7 := Lib.hid ((O5.out.trans O6.out).trans o67); have HB7 := Lib.hid ((HB5.out.still O6.out).still o67); clear o67 h7x o7x
        refine wp_region_steps 6 (by kernel_rfl) rfl (by kernel_rfl) [some 147, some 148, some 149, some 150, some 151, some 152] rfl rfl (fun _ => False) [(fun v _ => v = (.slice a5 L0.length c5)), (fun v _ => v = (.string ⟨L0.toArray⟩)), (fun v _ => v = (.agg #[.int .i64 cn, .int .u64 done, .slice ak ks.length ck, .int .u64 since, .int .u64 ver, .slice ax n cx, .slice ag gs.length cg])), (fun v w1 => Bytes w1 v E0), (fun v w1 => Bytes w1 v L0), (fun v _ => v = (.string ⟨L0.toArray⟩))] rfl ⟨?_, ?_, ?_, ?_, ?_, ?_, trivial⟩ _ rfl ⟨?_, ?_, ?_, ?_, ?_, ?_, trivial⟩ ?_
        · exact Stable.is _ _
        · exact Stable.is _ _
        · exact Stable.is _ _
        · exact (fun v w1 w2 h ho => h.still ho)
        · exact (fun v w1 w2 h ho => h.still ho)
        · exact Stable.is _ _
        · intro x wx ox hN TT HTT
          clear hN
          unfold StepTo
          simp only [putAll, Act.put, List.setIfInBounds_toArray, List.set_cons_succ, List.set_cons_zero]
          go_wp2_with fail
          exact ⟨rfl, _, rfl, HTT.out _ _ (rfl) (Only.refl _ _)⟩
        · intro x wx ox hN TT HTT
          have r147 : x 0 = (.slice a5 L0.length c5) := hN.1 rfl
          clear hN
          unfold StepTo
          simp only [putAll, Act.put, List.setIfInBounds_toArray, List.set_cons_succ, List.set_cons_zero, r147]
          clear r147
          have hcv := (HB7.out.still (((Only.refl _ w7).drew).trans ox)).conv
          go_wp2_with fail
          exact ⟨rfl, _, rfl, HTT.out _ _ (rfl) (Only.refl _ _)⟩
        · intro x wx ox hN TT HTT
          clear hN
          unfold StepTo
          simp only [putAll, Act.put, List.setIfInBounds_toArray, List.set_cons_succ, List.set_cons_zero]
          obtain ⟨x0, x1, x2, x3, x4, x5, x6, X2, X3, X4, X5, X6⟩ := box77 (HB.out wx (O7.out.trans (((Only.refl _ w7).drew).trans ox))).1
          go_wp2_with fail
          exact ⟨rfl, _, rfl, HTT.out _ _ (rfl) (Only.refl _ _)⟩
        · intro x wx ox hN TT HTT
          have r149 : x 2 = (.agg #[.int .i64 cn, .int .u64 done, .slice ak ks.length ck, .int .u64 since, .int .u64 ver, .slice ax n cx, .slice ag gs.length cg]) := hN.1 rfl
          clear hN
          unfold StepTo
          simp only [putAll, Act.put, List.setIfInBounds_toArray, List.set_cons_succ, List.set_cons_zero, r149]
          clear r149
          have hc := HRA.out wx (O7.out.trans (((Only.refl _ w7).drew).trans ox))
          have HC := Lib.hid hc; clear hc
          go_wp2_with fail
          refine HC.out.mono ?_
          rintro e w6' ⟨v6, rfl, h6, o6⟩
          go_wp2_with fail
          exact ⟨rfl, _, rfl, HTT.out _ _ (h6.bytes) (o6)⟩
        · intro x wx ox hN TT HTT
          have r150 : (fun (v : Value) (w1 : World) => Bytes w1 v E0) (x 3) wx := hN.1 rfl
          clear hN
          unfold StepTo
          simp only [putAll, Act.put, List.setIfInBounds_toArray, List.set_cons_succ, List.set_cons_zero]
          have hc := rSeal _ _ wx r150 (by have := HEL.out; omega)
          rw [← HL0.out] at hc
          have HC := Lib.hid hc; clear hc
          go_wp2_with fail
          refine HC.out.mono ?_
          rintro e w6' ⟨v6, rfl, h6, o6⟩
          go_wp2_with fail
          exact ⟨rfl, _, rfl, HTT.out _ _ (h6.bytes) (o6)⟩
        · intro x wx ox hN TT HTT
          have r151 : (fun (v : Value) (w1 : World) => Bytes w1 v L0) (x 4) wx := hN.1 rfl
          clear hN
          unfold StepTo
          simp only [putAll, Act.put, List.setIfInBounds_toArray, List.set_cons_succ, List.set_cons_zero]
          have hcv := r151.conv
          go_wp2_with fail
          exact ⟨rfl, _, rfl, HTT.out _ _ (rfl) (Only.refl _ _)⟩
        intro xa wxa oxa hN
        have r147 : xa 0 = (.slice a5 L0.length c5) := hN.1
        have r148 : xa 1 = (.string ⟨L0.toArray⟩) := hN.2.1
        have r149 : xa 2 = (.agg #[.int .i64 cn, .int .u64 done, .slice ak ks.length ck, .int .u64 since, .int .u64 ver, .slice ax n cx, .slice ag gs.length cg]) := hN.2.2.1
        have r150 : (fun (v : Value) (w1 : World) => Bytes w1 v E0) (xa 3) wxa := hN.2.2.2.1
        have r151 : (fun (v : Value) (w1 : World) => Bytes w1 v L0) (xa 4) wxa := hN.2.2.2.2.1
        have r152 : xa 5 = (.string ⟨L0.toArray⟩) := hN.2.2.2.2.2.1
        clear hN
        simp only [putAll, Act.put, List.setIfInBounds_toArray, List.set_cons_succ, List.set_cons_zero, r147, r148, r149, r152]
        clear r147 r148 r149 r152
        have o7a := ((Only.refl (fun _ => False) w7).drew).trans oxa
        have O8 := Lib.hid (O7.out.trans o7a)
        have H6A := Lib.hid ((o7a.block _ (Array.getElem?_eq_some_iff.1 H67.out).1 (fun h => h)).trans H67.out)
        have hat8 := HAT6.out.only (O67.out.trans o7a) (fun _ _ h => h)
        have HAT8 := Lib.hid hat8; have HB8 := Lib.hid (HB7.out.still o7a)
        clear oxa o7a r150 r151 hat8
        have hdt := dcda_any _ L0 wxa HB8.out (by have := HLL.out; omega)
        have HDT := Lib.hid hdt; clear hdt
        go_wp2_with fail
        refine HDT.out.mono ?_
        rintro e w9 ⟨o9, hcase⟩
        have hce : e = .returned (.tuple #[.agg #[.int .i64 0, .slice none 0 0, .int .u64 0, .slice none 0 0], .int .i64 3]) := by
          rcases hcase with ⟨cc, h1, h2, rfl⟩ | ⟨m, h1, h2, rfl⟩ | ⟨m, a', cs, h1, h2, rfl, h3⟩
          · exact absurd (sealed_codeT ⟨E0, HL0.out⟩ h1) h2
          · rfl
          · have := sealed_inj (HL0.out.symm.trans h1)
            subst this
            exact (ask_not_tell h2 HY.out).elim
        subst hce
        clear hcase
        have hz9 := heap_new w9 (.cells #[.int .i64 0, .slice none 0 0, .int .u64 0, .slice none 0 0] 89)
        have oz9 := (Only.refl (fun _ => False) w9).alloc (.cells #[.int .i64 0, .slice none 0 0, .int .u64 0, .slice none 0 0] 89)
        have HZ9 := Lib.hid hz9; have OZ9 := Lib.hid oz9; have O9 := Lib.hid o9; clear hz9 oz9 o9
        have H1B : Hid (∀ u ∈ ([.int .i64 0, .slice none 0 0, .int .u64 0, .slice none 0 0] : List Value), u.oneCell' = true) := Lib.hid (by intro v hv; simp only [List.mem_cons, List.not_mem_nil, or_false] at hv; rcases hv with rfl | rfl | rfl | rfl <;> rfl)
        have hzz := zero_Ask
        go_wp2_with ((refine wpList_store_box (o := ⟨none, _, _, _, _, _⟩) rfl 89 (.tmp 11) (.tmp 168) (by rfl) w9.heap.size [.int .i64 0, .slice none 0 0, .int .u64 0, .slice none 0 0] [.int .i64 0, .slice none 0 0, .int .u64 0, .slice none 0 0] (by rfl) (by rfl) HZ9.out rfl (by kernel_rfl) H1B.out ?_; intro w10 h10x o10x; clear hzz))
        have o910 : Only (fun _ => False) w9 w10 := OZ9.out.trans' o10x (fun q hq e => by omega)
        have oxa10 := O9.out.trans o910
        have HAT10 := Lib.hid (HAT8.out.only oxa10 (fun _ _ h => h)); have O10 := Lib.hid (O8.out.trans oxa10); have H610 := Lib.hid ((oxa10.block _ (Array.getElem?_eq_some_iff.1 H6A.out).1 (fun h => h)).trans H6A.out)
        clear o910 oxa10 h10x o10x
        refine wp_region_steps 15 (by kernel_rfl) rfl (by kernel_rfl) [some 170, some 171, some 172, some 173, some 174, some 175, some 176, some 177, some 178, some 179, some 180, some 181, some 182, some 183, some 184] rfl rfl (fun _ => False) [(fun v _ => v = (.int .i64 0)), (fun v _ => v = (.bool true)), (fun v _ => v = (.bool true)), (fun v _ => v = (.agg #[d0, d1, d2, d3, d4, d5, d6])), (fun v w1 => Bytes w1 v E0), (fun v _ => v = (.string ⟨E0.toArray⟩)), (fun v _ => v = (.agg #[.int .i64 cn, .int .u64 done, .slice ak ks.length ck, .int .u64 since, .int .u64 ver, .slice ax n cx, .slice ag gs.length cg])), (fun v w1 => Bytes w1 v E0), (fun v _ => v = (.string ⟨E0.toArray⟩)), (fun v _ => v = (.bool true)), (fun v _ => v = (.bool true)), (fun v _ => v = (.bool true)), (fun v _ => v = (.int .i64 3)), (fun v _ => v = (.bool true)), (fun v _ => v = (.bool true))] rfl ⟨?_, ?_, ?_, ?_, ?_, ?_, ?_, ?_, ?_, ?_, ?_, ?_, ?_, ?_, ?_, trivial⟩ _ rfl ⟨?_, ?_, ?_, ?_, ?_, ?_, ?_, ?_, ?_, ?_, ?_, ?_, ?_, ?_, ?_, trivial⟩ ?_
        · exact Stable.is _ _
        · exact Stable.is _ _
        · exact Stable.is _ _
        · exact Stable.is _ _
        · exact (fun v w1 w2 h ho => h.still ho)
        · exact Stable.is _ _
        · exact Stable.is _ _
        · exact (fun v w1 w2 h ho => h.still ho)
        · exact Stable.is _ _
        · exact Stable.is _ _
        · exact Stable.is _ _
        · exact Stable.is _ _
        · exact Stable.is _ _
        · exact Stable.is _ _
        · exact Stable.is _ _
        · intro x wx ox hN TT HTT
          clear hN
          unfold StepTo
          simp only [putAll, Act.put, List.setIfInBounds_toArray, List.set_cons_succ, List.set_cons_zero]
          go_wp2_with fail
          exact ⟨rfl, _, rfl, HTT.out _ _ (rfl) (Only.refl _ _)⟩
        · intro x wx ox hN TT HTT
          have r170 : x 0 = (.int .i64 0) := hN.1 rfl
          clear hN
          unfold StepTo
          simp only [putAll, Act.put, List.setIfInBounds_toArray, List.set_cons_succ, List.set_cons_zero, r170]
          clear r170
          go_wp2_with fail
          exact ⟨rfl, _, rfl, HTT.out _ _ (rfl) (Only.refl _ _)⟩
        · intro x wx ox hN TT HTT
          have r171 : x 1 = (.bool true) := hN.1 rfl
          clear hN
          unfold StepTo
          simp only [putAll, Act.put, List.setIfInBounds_toArray, List.set_cons_succ, List.set_cons_zero, r171]
          clear r171
          go_wp2_with fail
          exact ⟨rfl, _, rfl, HTT.out _ _ (rfl) (Only.refl _ _)⟩
        · intro x wx ox hN TT HTT
          have r172 : x 2 = (.bool true) := hN.1 rfl
          clear hN
          unfold StepTo
          simp only [putAll, Act.put, List.setIfInBounds_toArray, List.set_cons_succ, List.set_cons_zero, r172]
          clear r172
          obtain ⟨z0, z1, z2, z3, z4, z5, z6, Z2, Z3, Z4, Z5, Z6⟩ := box77 ((ox.block _ (Array.getElem?_eq_some_iff.1 H610.out).1 (fun h => h)).trans H610.out)
          go_wp2_with fail
          exact ⟨rfl, _, rfl, HTT.out _ _ (rfl) (Only.refl _ _)⟩
        · intro x wx ox hN TT HTT
          have r173 : x 3 = (.agg #[d0, d1, d2, d3, d4, d5, d6]) := hN.1 rfl
          have r172 : x 2 = (.bool true) := hN.2.1 rfl
          clear hN
          unfold StepTo
          simp only [putAll, Act.put, List.setIfInBounds_toArray, List.set_cons_succ, List.set_cons_zero, r173, r172]
          clear r173 r172
          have hc := HRA0.out wx _ _ (HAT10.out.only (((Only.refl _ w10).drew).trans ox) (fun _ _ h => h))
          have HC := Lib.hid hc; clear hc
          go_wp2_with fail
          refine HC.out.mono ?_
          rintro e w6' ⟨v6, rfl, h6, o6⟩
          go_wp2_with fail
          exact ⟨rfl, _, rfl, HTT.out _ _ (h6.bytes) (o6)⟩
        · intro x wx ox hN TT HTT
          have r174 : (fun (v : Value) (w1 : World) => Bytes w1 v E0) (x 4) wx := hN.1 rfl
          have r172 : x 2 = (.bool true) := hN.2.1 rfl
          clear hN
          unfold StepTo
          simp only [putAll, Act.put, List.setIfInBounds_toArray, List.set_cons_succ, List.set_cons_zero, r172]
          clear r172
          have hcv := r174.conv
          go_wp2_with fail
          exact ⟨rfl, _, rfl, HTT.out _ _ (rfl) (Only.refl _ _)⟩
        · intro x wx ox hN TT HTT
          have r172 : x 2 = (.bool true) := hN.1 rfl
          clear hN
          unfold StepTo
          simp only [putAll, Act.put, List.setIfInBounds_toArray, List.set_cons_succ, List.set_cons_zero, r172]
          clear r172
          obtain ⟨x0, x1, x2, x3, x4, x5, x6, X2, X3, X4, X5, X6⟩ := box77 (HB.out wx (O10.out.trans (((Only.refl _ w10).drew).trans ox))).1
          go_wp2_with fail
          exact ⟨rfl, _, rfl, HTT.out _ _ (rfl) (Only.refl _ _)⟩
        · intro x wx ox hN TT HTT
          have r176 : x 6 = (.agg #[.int .i64 cn, .int .u64 done, .slice ak ks.length ck, .int .u64 since, .int .u64 ver, .slice ax n cx, .slice ag gs.length cg]) := hN.1 rfl
          have r174 : (fun (v : Value) (w1 : World) => Bytes w1 v E0) (x 4) wx := hN.2.1 rfl
          have r172 : x 2 = (.bool true) := hN.2.2.1 rfl
          clear hN
          unfold StepTo
          simp only [putAll, Act.put, List.setIfInBounds_toArray, List.set_cons_succ, List.set_cons_zero, r176, r172]
          clear r176 r172
          have hc := HRA.out wx (O10.out.trans (((Only.refl _ w10).drew).trans ox))
          have HC := Lib.hid hc; clear hc
          go_wp2_with fail
          refine HC.out.mono ?_
          rintro e w6' ⟨v6, rfl, h6, o6⟩
          go_wp2_with fail
          exact ⟨rfl, _, rfl, HTT.out _ _ (h6.bytes) (o6)⟩
        · intro x wx ox hN TT HTT
          have r177 : (fun (v : Value) (w1 : World) => Bytes w1 v E0) (x 7) wx := hN.1 rfl
          have r172 : x 2 = (.bool true) := hN.2.1 rfl
          clear hN
          unfold StepTo
          simp only [putAll, Act.put, List.setIfInBounds_toArray, List.set_cons_succ, List.set_cons_zero, r172]
          clear r172
          have hcv := r177.conv
          go_wp2_with fail
          exact ⟨rfl, _, rfl, HTT.out _ _ (rfl) (Only.refl _ _)⟩
        · intro x wx ox hN TT HTT
          have r175 : x 5 = (.string ⟨E0.toArray⟩) := hN.1 rfl
          have r178 : x 8 = (.string ⟨E0.toArray⟩) := hN.2.1 rfl
          have r172 : x 2 = (.bool true) := hN.2.2.1 rfl
          clear hN
          unfold StepTo
          simp only [putAll, Act.put, List.setIfInBounds_toArray, List.set_cons_succ, List.set_cons_zero, r175, r178, r172]
          clear r175 r178 r172
          go_wp2_with fail
          exact ⟨rfl, _, rfl, HTT.out _ _ (rfl) (Only.refl _ _)⟩
        · intro x wx ox hN TT HTT
          have r172 : x 2 = (.bool true) := hN.1 rfl
          have r179 : x 9 = (.bool true) := hN.2.1 rfl
          clear hN
          unfold StepTo
          simp only [putAll, Act.put, List.setIfInBounds_toArray, List.set_cons_succ, List.set_cons_zero, r172, r179]
          clear r172 r179
          go_wp2_with fail
          exact ⟨rfl, _, rfl, HTT.out _ _ (rfl) (Only.refl _ _)⟩
        · intro x wx ox hN TT HTT
          have r180 : x 10 = (.bool true) := hN.1 rfl
          have r177 : (fun (v : Value) (w1 : World) => Bytes w1 v E0) (x 7) wx := hN.2.1 rfl
          clear hN
          unfold StepTo
          simp only [putAll, Act.put, List.setIfInBounds_toArray, List.set_cons_succ, List.set_cons_zero, r180]
          clear r180
          go_wp2_with fail
          exact ⟨rfl, _, rfl, HTT.out _ _ (rfl) (Only.refl _ _)⟩
        · intro x wx ox hN TT HTT
          have r181 : x 11 = (.bool true) := hN.1 rfl
          clear hN
          unfold StepTo
          simp only [putAll, Act.put, List.setIfInBounds_toArray, List.set_cons_succ, List.set_cons_zero, r181]
          clear r181
          go_wp2_with fail
          exact ⟨rfl, _, rfl, HTT.out _ _ (rfl) (Only.refl _ _)⟩
        · intro x wx ox hN TT HTT
          have r182 : x 12 = (.int .i64 3) := hN.1 rfl
          have r181 : x 11 = (.bool true) := hN.2.1 rfl
          clear hN
          unfold StepTo
          simp only [putAll, Act.put, List.setIfInBounds_toArray, List.set_cons_succ, List.set_cons_zero, r182, r181]
          clear r182 r181
          go_wp2_with fail
          exact ⟨rfl, _, rfl, HTT.out _ _ (rfl) (Only.refl _ _)⟩
        · intro x wx ox hN TT HTT
          have r181 : x 11 = (.bool true) := hN.1 rfl
          have r183 : x 13 = (.bool true) := hN.2.1 rfl
          clear hN
          unfold StepTo
          simp only [putAll, Act.put, List.setIfInBounds_toArray, List.set_cons_succ, List.set_cons_zero, r181, r183]
          clear r181 r183
          go_wp2_with fail
          exact ⟨rfl, _, rfl, HTT.out _ _ (rfl) (Only.refl _ _)⟩
        · intro x wx ox hN
          have r170 : x 0 = (.int .i64 0) := hN.1
          have r171 : x 1 = (.bool true) := hN.2.1
          have r172 : x 2 = (.bool true) := hN.2.2.1
          have r173 : x 3 = (.agg #[d0, d1, d2, d3, d4, d5, d6]) := hN.2.2.2.1
          have r174 : (fun (v : Value) (w1 : World) => Bytes w1 v E0) (x 4) wx := hN.2.2.2.2.1
          have r175 : x 5 = (.string ⟨E0.toArray⟩) := hN.2.2.2.2.2.1
          have r176 : x 6 = (.agg #[.int .i64 cn, .int .u64 done, .slice ak ks.length ck, .int .u64 since, .int .u64 ver, .slice ax n cx, .slice ag gs.length cg]) := hN.2.2.2.2.2.2.1
          have r177 : (fun (v : Value) (w1 : World) => Bytes w1 v E0) (x 7) wx := hN.2.2.2.2.2.2.2.1
          have r178 : x 8 = (.string ⟨E0.toArray⟩) := hN.2.2.2.2.2.2.2.2.1
          have r179 : x 9 = (.bool true) := hN.2.2.2.2.2.2.2.2.2.1
          have r180 : x 10 = (.bool true) := hN.2.2.2.2.2.2.2.2.2.2.1
          have r181 : x 11 = (.bool true) := hN.2.2.2.2.2.2.2.2.2.2.2.1
          have r182 : x 12 = (.int .i64 3) := hN.2.2.2.2.2.2.2.2.2.2.2.2.1
          have r183 : x 13 = (.bool true) := hN.2.2.2.2.2.2.2.2.2.2.2.2.2.1
          have r184 : x 14 = (.bool true) := hN.2.2.2.2.2.2.2.2.2.2.2.2.2.2.1
          clear hN
          simp only [putAll, Act.put, List.setIfInBounds_toArray, List.set_cons_succ, List.set_cons_zero, r170, r171, r172, r173, r175, r176, r178, r179, r180, r181, r182, r183, r184]
          clear r170 r171 r172 r173 r175 r176 r178 r179 r180 r181 r182 r183 r184
          go_wp2_with fail
          go_ret
          exact ⟨rfl, ((OB.out.trans O10.out).trans (((Only.refl _ w10).drew).trans ox)).still⟩
theorem tells_walk (v0 : Value) (w : World) {H : Type} {enc : TypeId × Value → H} {d0 : DataW H} {p0 : List MemPlace} {b0 : Nat}
    (h0 : DataW.Trod enc Try.prog w 0 (fun _ => true) true 83 v0 d0 p0) (g0 : Value.okWide Try.prog w .any b0 83 v0) (hk : Rows.uptoBulk d0 ≤ 1048576) :
    Calls Try.prog 15 #[v0] w fun e w' => e = .returned (.bool true) ∧ Below w.heap.size w w' := by
  obtain ⟨c, done, ks, since, ver, xs, gs, ak, ck, ax, cx, ag, cg, rfl, q1, q2, q3, q4, q5, q6, q7, q8, q9, q10, q11, q12, q13, q14, q15, q16⟩ := tell_of_Trod h0
  exact tells0 c done ks since ver xs gs ak ck ax cx ag cg w q1 q2 q3 q4 q5 q6 q7 q8 q9 q10 q11 (fun s hs => Nat.le_trans (q12 s hs) hk) (fun s hs => Nat.le_trans (q13 s hs) hk) (fun x hx => ⟨(q14 x hx).1, Nat.le_trans (q14 x hx).2 hk⟩) (Nat.le_trans q15 hk) (Nat.le_trans q16 hk)
end Go.Proofs.Ytoojnpafcdaflaa
