/- Bytes: slices of bytes that are read, and such as a call owns; strings. -/
import Derived.Test.YtlkglhgndfhjeaaBlkP
import Derived.Test.YtlkglhgndfhjeaaOwnB
import Derived.Maps.AppendAt
import Derived.Lib.AppendStr
import Derived.Lib.SlBytesConst
import Derived.Laws.IdiomStrings
import Derived.Laws.MakeOwn
import Derived.Deep.MidRow
import Derived.Deep.QuietTactic
import Derived.BigQuiet
namespace Go.Proofs.Ytlkglhgndfhjeaa
open Go Go.RowKit
set_option linter.unusedVariables false
set_option linter.unusedSimpArgs false

theorem u8s_str (l : List UInt8) : Lib.strCells ⟨l.toArray⟩ = u8s l := by simp [Lib.strCells, u8s]
theorem Bytes.still {w w' : World} {v : Value} {l : List UInt8} (h : Bytes w v l) (ho : Only (fun _ => False) w w') : Bytes w' v l := h.only ho (fun _ _ _ h => h)
theorem Bytes.len {w : World} {v : Value} {l : List UInt8} (h : Bytes w v l) : l.length ≤ 9223372036854775807 := by obtain ⟨_, _, _, h1, h2, _⟩ := h; omega
theorem Bytes.nil (w : World) : Bytes w (.slice none 0 0) [] := ⟨none, 0, rfl, by decide, by decide, fun h => absurd h (by decide)⟩
/-! ### Bytes that a call owns -/
def Own8 (w : World) (B : Nat) (v : Value) (l : List UInt8) : Prop := ∃ a c, v = .slice a l.length c ∧ w.ownsRow B 5 1 v l.length (u8s l)
theorem Own8.nil (w : World) (B : Nat) : Own8 w B (.slice none 0 0) [] := ⟨none, 0, rfl, ⟨rfl, .inl ⟨rfl, rfl⟩⟩⟩
theorem Own8.ge {w : World} {B : Nat} {v : Value} {l : List UInt8} (h : Own8 w B v l) {k : Nat} (hk : v.ownBlock = some k) : B ≤ k ∧ k < w.heap.size := by
  obtain ⟨a, c, _, h1, h2⟩ := h
  rcases h2 with ⟨rfl, _⟩ | ⟨g, cap, cur, rfl, hg, hh, _⟩
  · cases hk
  · injection hk with hk; subst hk
    exact ⟨hg, (Array.getElem?_eq_some_iff.1 hh).1⟩
theorem Own8.only {S : Nat → Prop} {w w' : World} {B : Nat} {v : Value} {l : List UInt8} (h : Own8 w B v l) (ho : Only S w w') (hS : ∀ k, v.ownBlock = some k → ¬ S k) : Own8 w' B v l := by
  obtain ⟨a, c, hv, h1, h2⟩ := h
  refine ⟨a, c, hv, h1, ?_⟩
  rcases h2 with h2 | ⟨g, cap, cur, rfl, hg, hh, r⟩
  · exact Or.inl h2
  · exact Or.inr ⟨g, cap, cur, rfl, hg, by rw [ho.block _ (Array.getElem?_eq_some_iff.1 hh).1 (hS g rfl)]; exact hh, r⟩
theorem Own8.still {w w' : World} {B : Nat} {v : Value} {l : List UInt8} (h : Own8 w B v l) (ho : Only (fun _ => False) w w') : Own8 w' B v l := h.only ho (fun _ _ h => h)
theorem Own8.mono {w : World} {B C : Nat} {v : Value} {l : List UInt8} (h : Own8 w B v l) (hC : C ≤ B) : Own8 w C v l := by
  obtain ⟨a, c, hv, h1, h2⟩ := h
  refine ⟨a, c, hv, h1, ?_⟩
  rcases h2 with h2 | ⟨g, cap, cur, h3, hg, r⟩
  · exact Or.inl h2
  · exact Or.inr ⟨g, cap, cur, h3, by omega, r⟩
theorem Own8.bytes {w : World} {B : Nat} {v : Value} {l : List UInt8} (h : Own8 w B v l) : Bytes w v l := by
  obtain ⟨a, c, rfl, h1, h2⟩ := h
  rcases h2 with ⟨e, h0⟩ | ⟨g, cap, cur, e, hg, hh, h3, h4, h5, h6⟩
  · injection e with e1 e2 e3
    subst e1; subst e3
    exact ⟨none, 0, rfl, by omega, by omega, fun h => by omega⟩
  · injection e with e1 _ e3
    subst e1; subst e3
    refine ⟨_, c, rfl, h3, by unfold maxLen at h4; omega, fun hp => ⟨g, 0, rfl, (Array.getElem?_eq_some_iff.1 hh).1, fun j v hv => ?_⟩⟩
    simp only [World.cell?, hh]
    rw [Nat.zero_add]
    have hj : j < l.length := by have := (List.getElem?_eq_some_iff.1 hv).1; rwa [u8s_len] at this
    rw [← h6, List.getElem?_take, Nat.mul_one, if_pos hj] at hv
    simpa using hv
theorem own8_new (w : World) (l : List UInt8) {B : Nat} (hB : B ≤ w.heap.size) (hl : l.length ≤ maxLen) {C : Array Value} (hC : C = (u8s l).toArray) : Own8 (w.alloc (.cells C 5)) B (.slice (some ⟨w.heap.size, 0, none⟩) l.length l.length) l := by
  subst hC
  refine ⟨_, _, rfl, by rw [u8s_len]; omega, .inr ⟨w.heap.size, l.length, _, rfl, hB, heap_new w _, Nat.le_refl _, hl, by rw [List.size_toArray, u8s_len]; omega, ?_⟩⟩
  rw [List.take_of_length_le (by simp [u8s_len])]
/-- What an append may turn: v's own block; where the new value lies. -/
def Grow (w w' : World) (v v' : Value) : Prop := Only (fun k => v.ownBlock = some k) w w' ∧ ∀ k, v'.ownBlock = some k → v.ownBlock = some k ∨ w.heap.size ≤ k
theorem run_append8 {w : World} {B : Nat} {v x : Value} {l m : List UInt8} (hown : Own8 w B v l) (hb : Bytes w x m) (hsz : l.length + m.length ≤ 140737488355328) (hB : B ≤ w.heap.size) (ty : TypeId) :
    ∃ a' c' w', (Builtin.append_ #[22, 22] ty #[v, x]).run Try.prog w = .ok (.slice a' (l ++ m).length c') w' ∧ Own8 w' B (.slice a' (l ++ m).length c') (l ++ m) ∧ Grow w w' v (.slice a' (l ++ m).length c') := by
  obtain ⟨i0, hi, hz0, hz1, hz2⟩ := info_parts infoU8
  obtain ⟨a, c, hv, ho⟩ := hown
  obtain ⟨ax, cx, rfl, h1, h2, h3⟩ := hb
  have hfin : ∀ v' w', w'.ownsRow B 5 1 v' (l.length + m.length) (u8s l ++ u8s m) → w.grownBy w' v.ownBlock → (v'.ownBlock = v.ownBlock ∨ v'.ownBlock = some w.heap.size) → (Builtin.append_ #[22, 22] ty #[v, .slice ax m.length cx]).run Try.prog w = .ok v' w' →
      ∃ a' c' w', (Builtin.append_ #[22, 22] ty #[v, .slice ax m.length cx]).run Try.prog w = .ok (.slice a' (l ++ m).length c') w' ∧ Own8 w' B (.slice a' (l ++ m).length c') (l ++ m) ∧ Grow w w' v (.slice a' (l ++ m).length c') := by
    intro v' w' g1 g2 g3 hr
    have hv' : ∃ a' c', v' = .slice a' (l ++ m).length c' := by
      rw [List.length_append]
      rcases g1.2 with ⟨rfl, h0⟩ | ⟨g, cap, cur, rfl, _⟩
      · exact ⟨none, 0, by rw [h0]⟩
      · exact ⟨_, _, rfl⟩
    obtain ⟨a', c', rfl⟩ := hv'
    refine ⟨a', c', w', hr, ⟨a', c', rfl, by have := g1; rw [← List.length_append, ← u8s_append] at this; exact this⟩, ⟨(Only.refl (fun k => v.ownBlock = some k) w).grown g2 (fun k hk => .inl hk), fun k hk => ?_⟩⟩
    rcases g3 with g | g
    · exact .inl (g ▸ hk)
    · rw [g] at hk; injection hk with hk; exact .inr (Nat.le_of_eq hk)
  cases ax with
  | some ad =>
    have hcell : ∀ j u, (u8s m)[j]? = some u → w.cell? (ad.add j) = some u := by
      intro j u hu
      have hj : 0 < m.length := by have := (List.getElem?_eq_some_iff.1 hu).1; rw [u8s_len] at this; omega
      obtain ⟨b, off, e, hb, hr⟩ := h3 hj
      cases e
      rw [addr_add]; exact hr j u hu
    obtain ⟨v', w', hr, g1, g2, _, g3⟩ := run_append_own_at (P := Try.prog) w B 22 ty 5 i0 (.int .u8 0) 1 1 Try.underlying22 hi hz0 hz1 hz2 rfl (by decide) v l.length (u8s l) ho ad m.length cx (u8s m) (by rw [u8s_len, Nat.mul_one]) hcell u8s_one (by unfold maxLen; omega) (by omega) hB
    exact hfin v' w' g1 g2 g3 hr
  | none =>
    have hm : m = [] := by
      rcases Nat.eq_zero_or_pos m.length with h0 | h0
      · exact List.eq_nil_of_length_eq_zero h0
      · obtain ⟨_, _, e, _⟩ := h3 h0
        cases e
    subst hm
    refine hfin v w (by simpa [u8s] using ho) (World.grownBy.refl w _) (.inl rfl) ?_
    rcases ho.2 with ⟨rfl, hl⟩ | ⟨g, cap, cur, rfl, _, _, hnc, _⟩
    · simp [Builtin.append_, run_underlying Try.underlying22, sizeOf, typeInfo, hi, Builtin.lenOf, Builtin.firstCells]
    · simp [Builtin.append_, run_underlying Try.underlying22, sizeOf, typeInfo, hi, Builtin.lenOf, Builtin.firstCells, hnc, storeCells]
theorem run_append8s {w : World} {B : Nat} {v : Value} {l m : List UInt8} (hown : Own8 w B v l) (hsz : l.length + m.length ≤ 140737488355328) (hB : B ≤ w.heap.size) (ty : TypeId) :
    ∃ a' c' w', (Builtin.append_ #[22, 9] ty #[v, .string ⟨m.toArray⟩]).run Try.prog w = .ok (.slice a' (l ++ m).length c') w' ∧ Own8 w' B (.slice a' (l ++ m).length c') (l ++ m) ∧ Grow w w' v (.slice a' (l ++ m).length c') := by
  obtain ⟨i0, hi, hz0, hz1, hz2⟩ := info_parts infoU8
  obtain ⟨a, c, hv, ho⟩ := hown
  have hms : (⟨m.toArray⟩ : ByteArray).size = m.length := by simp [ByteArray.size]
  obtain ⟨v', w', hr, g1, g2, g4⟩ := Lib.run_append_own_string (P := Try.prog) w B 22 9 ty 5 i0 Try.underlying22 Try.underlying9 hi hz0 hz1 hz2 v l.length (u8s l) ho ⟨m.toArray⟩ (by rw [hms]; unfold maxLen; omega) (by rw [hms]; omega) hB
  rw [hms, u8s_str] at g1
  have g3 : ∀ k, v'.ownBlock = some k → v.ownBlock = some k ∨ w.heap.size ≤ k := by
    intro k hk
    rcases ho.2 with ⟨rfl, hl⟩ | ⟨g, cap, cur, rfl, _, hh, hnc, hcm, hsz', hcur⟩
    · by_cases hm0 : m.length = 0
      · have := g4.2 ⟨rfl, by rw [hms]; exact hm0⟩
        rw [this] at hk; cases hk
      · have hr2 := run_append_nil_string (P := Try.prog) w 22 9 ty 5 i0 (.int .u8 0) Try.underlying22 Try.underlying9 hi hz0 ⟨m.toArray⟩ (by omega) (by omega) (by rw [hz2]; omega)
        rw [hr] at hr2
        injection hr2 with e1 e2
        rw [e1] at hk
        injection hk with hk
        exact .inr (Nat.le_of_eq hk)
    · by_cases hroom : l.length + m.length ≤ cap
      · have hr2 := Lib.run_append_room_string (P := Try.prog) w 22 9 ty 5 i0 Try.underlying22 Try.underlying9 hi hz1 g l.length cap cur hh ⟨m.toArray⟩ (by omega) (by omega)
        rw [hr] at hr2
        injection hr2 with e1 e2
        rw [e1] at hk
        injection hk with hk
        exact .inl (by rw [← hk]; rfl)
      · have holds : ∀ j u, (u8s l)[j]? = some u → w.cell? ((⟨g, 0, none⟩ : Addr).add j) = some u := ho.cells (g := g) rfl
        have hn := nextslicecap_le (need := l.length + m.length) (old := cap) (by omega)
        have hr2 := Lib.run_append_grow_string (P := Try.prog) w 22 9 ty 5 i0 (.int .u8 0) Try.underlying22 Try.underlying9 hi hz0 ⟨g, 0, none⟩ l.length cap (u8s l) (by rw [u8s_len, hz1, Nat.mul_one]) holds ⟨m.toArray⟩ (by omega) (by omega) (by rw [hz2, hms]; omega)
        rw [hr] at hr2
        injection hr2 with e1 e2
        rw [e1] at hk
        injection hk with hk
        exact .inr (Nat.le_of_eq hk)
  have hv' : ∃ a' c', v' = .slice a' (l ++ m).length c' := by
    rw [List.length_append]
    rcases g1.2 with ⟨rfl, h0⟩ | ⟨g, cap, cur, rfl, _⟩
    · exact ⟨none, 0, by rw [h0]⟩
    · exact ⟨_, _, rfl⟩
  obtain ⟨a', c', rfl⟩ := hv'
  exact ⟨a', c', w', hr, ⟨a', c', rfl, by have := g1; rw [← List.length_append, ← u8s_append] at this; exact this⟩, ⟨(Only.refl (fun k => v.ownBlock = some k) w).grown g2 (fun k hk => .inl hk), g3⟩⟩

/-! ### The operations, for the walk -/
theorem wpList_append8 {w : World} {ops : Array Oper} {rest : List Oper} {o : Oper} {a : Act} {Q : Exit → Act → World → Prop} (hgd : o.guard = none) (s x : Operand)
    (ho : o.op = .call { callee := .builtin .append, args := #[s, x], argTypes := #[22, 22] })
    (B : Nat) (v xv : Value) (l m : List UInt8) (hs : a.eval s = v) (hx : a.eval x = xv) (hown : Own8 w B v l) (hb : Bytes w xv m) (hsz : l.length + m.length ≤ 140737488355328) (hB : B ≤ w.heap.size)
    (h : ∀ (L : List UInt8) (a' : Option Addr) (c' : Nat) (w' : World), Hid (L = l ++ m) → Hid (Own8 w' B (.slice a' L.length c') L) → Hid (Grow w w' v (.slice a' L.length c')) → wpList Try.prog ops Q rest (a.put o.dst (.slice a' L.length c')) w') : wpList Try.prog ops Q (o :: rest) a w := by
  refine wpList_plain hgd fun K hK => ?_
  obtain ⟨a', c', w', hr, h2, h3⟩ := run_append8 hown hb hsz hB o.type
  unfold Oper.wp execOp
  simp only [ho, resolve, invoke, builtin, Sem.run_bind, Sem.run_pure, Result.andThen_ok, List.map_toArray, List.map_cons, List.map_nil, hs, hx, hr]
  exact hK _ _ (h _ a' c' w' (Lib.hid rfl) (Lib.hid h2) (Lib.hid h3))
theorem wpList_append8s {w : World} {ops : Array Oper} {rest : List Oper} {o : Oper} {a : Act} {Q : Exit → Act → World → Prop} (hgd : o.guard = none) (s x : Operand)
    (ho : o.op = .call { callee := .builtin .append, args := #[s, x], argTypes := #[22, 9] })
    (B : Nat) (v : Value) (l m : List UInt8) (hs : a.eval s = v) (hx : a.eval x = .string ⟨m.toArray⟩) (hown : Own8 w B v l) (hsz : l.length + m.length ≤ 140737488355328) (hB : B ≤ w.heap.size)
    (h : ∀ (L : List UInt8) (a' : Option Addr) (c' : Nat) (w' : World), Hid (L = l ++ m) → Hid (Own8 w' B (.slice a' L.length c') L) → Hid (Grow w w' v (.slice a' L.length c')) → wpList Try.prog ops Q rest (a.put o.dst (.slice a' L.length c')) w') : wpList Try.prog ops Q (o :: rest) a w := by
  refine wpList_plain hgd fun K hK => ?_
  obtain ⟨a', c', w', hr, h2, h3⟩ := run_append8s hown hsz hB o.type
  unfold Oper.wp execOp
  simp only [ho, resolve, invoke, builtin, Sem.run_bind, Sem.run_pure, Result.andThen_ok, List.map_toArray, List.map_cons, List.map_nil, hs, hx, hr]
  exact hK _ _ (h _ a' c' w' (Lib.hid rfl) (Lib.hid h2) (Lib.hid h3))
/-- []byte(s) -/
theorem conv_str (w : World) (l : List UInt8) (hl : l.length ≤ 140737488355328) : ∃ c w', (convert 9 22 (.string ⟨l.toArray⟩)).run Try.prog w = .ok (.slice (some ⟨w.heap.size, 0, none⟩) l.length c) w' ∧ Bytes w' (.slice (some ⟨w.heap.size, 0, none⟩) l.length c) l ∧ Only (fun _ => False) w w' := by
  have hms : (⟨l.toArray⟩ : ByteArray).size = l.length := by simp [ByteArray.size]
  have hr := run_bytes_of_string (P := Try.prog) w 9 22 5 ⟨l.toArray⟩ Try.underlying9 Try.underlying22 Try.underlying5
  rw [hms] at hr
  have hge := grownCap_ge w l.length 0 5
  have hle := grownCap_le_maxLen w l.length 0 5 (by unfold maxLen; omega)
  refine ⟨_, _, hr, ⟨_, _, rfl, hge, by unfold maxLen at hle; omega, fun hp => ⟨_, _, rfl, by simp, fun j v hv => ?_⟩⟩, ((Only.refl _ w).drew).alloc _⟩
  have hj : j < l.length := by have := (List.getElem?_eq_some_iff.1 hv).1; rwa [u8s_len] at this
  have hn := heap_new w.drew (.cells (bytesRow ⟨l.toArray⟩ (grownCap w l.length 0 5)) 5 ((bytesRow ⟨l.toArray⟩ (grownCap w l.length 0 5)).size, (bytesRow ⟨l.toArray⟩ (grownCap w l.length 0 5)).size + 1))
  have hn' : (w.drew.alloc (.cells (bytesRow ⟨l.toArray⟩ (grownCap w l.length 0 5)) 5 ((bytesRow ⟨l.toArray⟩ (grownCap w l.length 0 5)).size, (bytesRow ⟨l.toArray⟩ (grownCap w l.length 0 5)).size + 1))).heap[w.heap.size]? = _ := hn
  simp only [World.cell?, hn', Nat.zero_add]
  have e : (bytesRow ⟨l.toArray⟩ (grownCap w l.length 0 5))[j]? = (u8s l)[j]? := by
    unfold bytesRow u8s
    rw [Array.getElem?_append_left (by simp; exact hj)]
    simp
  rw [e]
  simpa using hv
end Go.Proofs.Ytlkglhgndfhjeaa

