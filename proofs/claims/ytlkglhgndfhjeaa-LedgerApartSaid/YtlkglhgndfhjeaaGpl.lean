/- The ledger's blocks, plainly. -/
import Derived.Test.YtlkglhgndfhjeaaGly
namespace Go.Proofs.Ytlkglhgndfhjeaa
open Go Go.RowKit
set_option linter.unusedVariables false
set_option linter.unusedSimpArgs false

theorem body_add (V : List (List UInt8)) (a j k : Nat) : body V a (j + k) = body V a j ++ body V (a + j) k := by
  unfold body
  rw [List.take_add, List.flatten_append, List.drop_drop]
theorem putc_get (V : List (List UInt8)) (a : Nat) (p : List UInt8) : ∀ (k j : Nat), (j < a ∨ a + k ≤ j) → (putc V a p k).getD j [] = V.getD j []
  | 0, j, _ => rfl
  | k + 1, j, h => by
    have e : (putc V a p (k + 1)).getD j [] = (putc V a p k).getD j [] := by
      show ((putc V a p k).set (a + k) _).getD j [] = _
      rw [List.getD_eq_getElem?_getD, List.getElem?_set_ne (by omega), ← List.getD_eq_getElem?_getD]
    rw [e, putc_get V a p k j (by omega)]
/-- Two views that agree on some blocks have the same bytes there. -/
theorem body_same {V U : List (List UInt8)} (hl : V.length = U.length) : ∀ (k a : Nat), a + k ≤ V.length → (∀ j, a ≤ j → j < a + k → V.getD j [] = U.getD j []) → body V a k = body U a k
  | 0, a, _, _ => by simp [body]
  | k + 1, a, h, he => by
    rw [body_succ (by omega), body_succ (by omega), body_same hl k a (by omega) (fun j h1 h2 => he j h1 (by omega)), he (a + k) (by omega) (by omega)]
theorem pad_chunk (b : List UInt8) (k M : Nat) (hM : k * 64 + 64 ≤ b.length + M) : pad64 (chunk b k) = ((b ++ List.replicate M 0).drop (k * 64)).take 64 := by
  unfold pad64 chunk
  by_cases h : k * 64 ≤ b.length
  · rw [List.drop_append_of_le_length h]
    by_cases h2 : k * 64 + 64 ≤ b.length
    · rw [List.take_append_of_le_length (by rw [List.length_drop]; omega)]
      have e : 64 - (List.take 64 (List.drop (k * 64) b)).length = 0 := by rw [List.length_take, List.length_drop]; omega
      rw [e]; simp
    · have e1 : (List.drop (k * 64) b).length = b.length - k * 64 := List.length_drop
      rw [List.take_append, List.take_of_length_le (by omega), e1, List.take_replicate, Nat.min_eq_left (by omega)]
  · have e : List.drop (k * 64) b = [] := List.drop_of_length_le (by omega)
    rw [e, List.drop_append, e, List.nil_append, List.drop_replicate, List.take_replicate]
    simp only [List.take_nil, List.length_nil, List.nil_append, Nat.sub_zero]
    congr 1; omega
theorem body_putc {V : List (List UInt8)} (A : Nat) (b : List UInt8) (M : Nat) : ∀ k, A + k ≤ V.length → k * 64 ≤ b.length + M → body (putc V A b k) A k = (b ++ List.replicate M 0).take (k * 64)
  | 0, _, _ => by simp [body]
  | k + 1, h, hM => by
    have e1 : body (putc V A b (k + 1)) A k = body (putc V A b k) A k := body_same (by rw [putc_len, putc_len]) k A (by rw [putc_len]; omega) (fun j h1 h2 => by
      show ((putc V A b k).set (A + k) _).getD j [] = _
      rw [List.getD_eq_getElem?_getD, List.getElem?_set_ne (by omega), ← List.getD_eq_getElem?_getD])
    have e2 : (putc V A b (k + 1)).getD (A + k) [] = pad64 (chunk b k) := by
      show ((putc V A b k).set (A + k) _).getD (A + k) [] = _
      rw [List.getD_eq_getElem?_getD, List.getElem?_set_self (by rw [putc_len]; omega)]; rfl
    rw [body_succ (by rw [putc_len]; omega), e1, body_putc A b M k (by omega) (by omega), e2, pad_chunk b k M (by omega), Nat.succ_mul, List.take_add]
theorem hdr_pad (t : Nat) : (pad64 (hdr t)).take 16 = hdr t := by
  unfold pad64
  rw [List.take_append_of_le_length (by rw [hdr_len]; exact Nat.le_refl _), List.take_of_length_le (by rw [hdr_len]; exact Nat.le_refl _)]
/-- Where a ledger's blocks lie; the half that counts has its header. -/
structure Pre (V : List (List UInt8)) (f : Fl) : Prop where
  ok : f.Ok
  geo : f.at_ + 2 * f.half ≤ V.length
  len : V.length ≤ 100000
  rows : ∀ r ∈ V, r.length = 64
  head : (V.getD (f.first f.side - 1) []).take 16 = hdr f.turn
/-- The ledger holds these frames. -/
structure Good (V : List (List UInt8)) (f : Fl) (fs : List (List UInt8)) : Prop extends Pre V f where
  turn : 1 ≤ f.turn
  en : f.en = sizes fs
  n : f.n = fs.length
  some_ : fs ≠ []
  fits : sizes fs ≤ f.room
  bytes : body V (f.first f.side) (f.half - 1) = laid f.turn 1 fs ++ List.replicate (f.room - sizes fs) 0
  other : ∃ t, t < f.turn ∧ (V.getD (f.first (1 - f.side) - 1) []).take 16 = hdr t
theorem Pre.first_le {V : List (List UInt8)} {f : Fl} (h : Pre V f) (s : Nat) (hs : s ≤ 1) : f.first s + (f.half - 1) ≤ V.length ∧ 1 ≤ f.first s := by
  have := h.geo; have := h.ok.half
  unfold Fl.first
  rcases (by omega : s = 0 ∨ s = 1) with e | e <;> rw [e] <;> omega
theorem layV_len (V : List (List UInt8)) (f : Fl) (p : List UInt8) : (layV V f p).length = V.length := by unfold layV; rw [List.length_set, putc_len]
theorem pad64_rows {V : List (List UInt8)} (h : ∀ r ∈ V, r.length = 64) (i : Nat) {p : List UInt8} (hp : p.length ≤ 64) : ∀ r ∈ V.set i (pad64 p), r.length = 64 := fun r hr => by
  rcases List.mem_or_eq_of_mem_set hr with h' | h'
  · exact h r h'
  · rw [h']; exact pad64_len hp
theorem putc_rows {V : List (List UInt8)} (h : ∀ r ∈ V, r.length = 64) (a : Nat) (p : List UInt8) : ∀ k, ∀ r ∈ putc V a p k, r.length = 64
  | 0 => h
  | k + 1 => pad64_rows (putc_rows h a p k) _ (chunk_len p k)
theorem lay_get {V : List (List UInt8)} {f : Fl} (h : Pre V f) (p : List UInt8) (j : Nat) (hj : j < f.first (1 - f.side) - 1 ∨ f.first (1 - f.side) + (f.half - 1) ≤ j) : (layV V f p).getD j [] = V.getD j [] := by
  have := (h.first_le (1 - f.side) (by omega)).2
  unfold layV
  rw [List.getD_eq_getElem?_getD, List.getElem?_set_ne (by omega), ← List.getD_eq_getElem?_getD, putc_get _ _ _ _ _ (by omega)]
/-- What lay leaves is good. -/
theorem Pre.lay {V : List (List UInt8)} {f : Fl} (h : Pre V f) (fs : List (List UInt8)) (hne : fs ≠ []) (hfit : sizes fs ≤ f.room) (ht : f.turn + 1 ≤ 1000000000) (hn : fs.length ≤ 1000000) : Good (layV V f (laid (f.turn + 1) 1 fs)) (f.laid (sizes fs) fs.length) fs := by
  have hs := h.ok.side
  have hh := h.ok.half
  obtain ⟨g1, g2⟩ := h.first_le (1 - f.side) (by omega)
  obtain ⟨g3, g4⟩ := h.first_le f.side hs
  have hroom : f.room = (f.half - 1) * 64 := rfl
  have hL : (laid (f.turn + 1) 1 fs).length = sizes fs := laid_len _ _ _
  have hfar : f.first f.side + f.half ≤ f.first (1 - f.side) ∨ f.first (1 - f.side) + f.half ≤ f.first f.side := by
    unfold Fl.first
    rcases (by omega : f.side = 0 ∨ f.side = 1) with e | e <;> rw [e] <;> omega
  have hss : (1 - (1 - f.side)) = f.side := by omega
  have hb : body (layV V f (laid (f.turn + 1) 1 fs)) (f.first (1 - f.side)) (f.half - 1) = laid (f.turn + 1) 1 fs ++ List.replicate (f.room - sizes fs) 0 := by
    have e1 : body (layV V f (laid (f.turn + 1) 1 fs)) (f.first (1 - f.side)) (f.half - 1) = body (putc V (f.first (1 - f.side)) (laid (f.turn + 1) 1 fs) (f.half - 1)) (f.first (1 - f.side)) (f.half - 1) := body_same (by rw [layV_len, putc_len]) _ _ (by rw [layV_len]; exact g1) (fun j h1 h2 => by
      unfold layV
      rw [List.getD_eq_getElem?_getD, List.getElem?_set_ne (by omega), ← List.getD_eq_getElem?_getD])
    rw [e1, body_putc _ _ (f.room - sizes fs) _ g1 (by rw [hL]; omega), List.take_of_length_le (by rw [List.length_append, hL, List.length_replicate]; omega)]
  refine { ok := ⟨h.ok.at_, hh, by show 1 - f.side ≤ 1; omega, ht, by show sizes fs ≤ _; omega, hn⟩, geo := by rw [layV_len]; exact h.geo, len := by rw [layV_len]; exact h.len, rows := ?_, head := ?_, turn := Nat.succ_le_succ (Nat.zero_le _), en := rfl, n := rfl, some_ := hne, fits := hfit, bytes := hb, other := ⟨f.turn, Nat.lt_succ_self _, ?_⟩ }
  · exact pad64_rows (putc_rows h.rows _ _ _) _ (by rw [hdr_len]; decide)
  · show ((layV V f (laid (f.turn + 1) 1 fs)).getD (f.first (1 - f.side) - 1) []).take 16 = hdr (f.turn + 1)
    unfold layV
    rw [List.getD_eq_getElem?_getD, List.getElem?_set_self (by rw [putc_len]; omega)]
    exact hdr_pad _
  · show ((layV V f (laid (f.turn + 1) 1 fs)).getD (f.first (1 - (1 - f.side)) - 1) []).take 16 = hdr f.turn
    rw [hss, lay_get h _ _ (by omega)]
    exact h.head
/-- The tail's bytes. -/
def tailOf (f : Fl) (fs : List (List UInt8)) : List UInt8 := (laid f.turn 1 fs).drop (sizes fs / 64 * 64)
def apnB (f : Fl) (fs : List (List UInt8)) (p : List UInt8) : List UInt8 := tailOf f fs ++ frm f.turn (fs.length + 1) p
def apnN (f : Fl) (fs : List (List UInt8)) (p : List UInt8) : Nat := ((apnB f fs p).length + 63) / 64
def apnV (V : List (List UInt8)) (f : Fl) (fs : List (List UInt8)) (p : List UInt8) : List (List UInt8) := putc V (f.first f.side + sizes fs / 64) (apnB f fs p) (apnN f fs p)
def Fl.apn (f : Fl) (p : List UInt8) : Fl := { f with en := f.en + (p.length + 8), n := f.n + 1 }
theorem apnB_len (f : Fl) (fs : List (List UInt8)) (p : List UInt8) : (apnB f fs p).length + sizes fs / 64 * 64 = sizes fs + (p.length + 8) := by
  unfold apnB tailOf
  rw [List.length_append, List.length_drop, laid_len, frm_len]; omega
theorem tail_apn (f : Fl) (fs : List (List UInt8)) (p : List UInt8) : tailOf (f.apn p) (fs ++ [p]) = (apnB f fs p).drop ((apnB f fs p).length / 64 * 64) := by
  have h := apnB_len f fs p
  have e : laid f.turn 1 (fs ++ [p]) = (laid f.turn 1 fs).take (sizes fs / 64 * 64) ++ apnB f fs p := by
    unfold apnB tailOf
    rw [laid_snoc, ← List.append_assoc, List.take_append_drop, Nat.add_comm 1]
  unfold tailOf
  show (laid f.turn 1 (fs ++ [p])).drop _ = _
  rw [e, sizes_snoc, List.drop_append]
  have e1 : ((laid f.turn 1 fs).take (sizes fs / 64 * 64)).length = sizes fs / 64 * 64 := by rw [List.length_take, laid_len]; omega
  rw [e1, List.drop_of_length_le (by rw [e1]; omega), List.nil_append]
  congr 1; omega
theorem Good.append {V : List (List UInt8)} {f : Fl} {fs : List (List UInt8)} (h : Good V f fs) (p : List UInt8) (hfit : sizes fs + (p.length + 8) ≤ f.room) (hn : fs.length + 1 ≤ 1000000) : Good (apnV V f fs p) (f.apn p) (fs ++ [p]) := by
  have hs := h.ok.side
  have hh := h.ok.half
  obtain ⟨g1, g2⟩ := h.first_le (1 - f.side) (by omega)
  obtain ⟨g3, g4⟩ := h.first_le f.side hs
  have hroom : f.room = (f.half - 1) * 64 := rfl
  have hB := apnB_len f fs p
  have hfar : f.first f.side + f.half ≤ f.first (1 - f.side) ∨ f.first (1 - f.side) + f.half ≤ f.first f.side := by
    unfold Fl.first
    rcases (by omega : f.side = 0 ∨ f.side = 1) with e | e <;> rw [e] <;> omega
  obtain ⟨J, hJ⟩ : ∃ J, sizes fs / 64 = J := ⟨_, rfl⟩
  obtain ⟨C, hC⟩ : ∃ C, apnN f fs p = C := ⟨_, rfl⟩
  have hC' : ((apnB f fs p).length + 63) / 64 = C := hC
  rw [hJ] at hB
  have hJC : J + C ≤ f.half - 1 := by omega
  have hlen : (apnV V f fs p).length = V.length := putc_len _ _ _ _
  have hL : (laid f.turn 1 fs).length = sizes fs := laid_len _ _ _
  have hbody : body (apnV V f fs p) (f.first f.side) (f.half - 1) = laid f.turn 1 (fs ++ [p]) ++ List.replicate (f.room - sizes (fs ++ [p])) 0 := by
    have split : f.half - 1 = J + (C + (f.half - 1 - J - C)) := by omega
    have e0 : ∀ U : List (List UInt8), body U (f.first f.side) (f.half - 1) = body U (f.first f.side) J ++ (body U (f.first f.side + J) C ++ body U (f.first f.side + J + C) (f.half - 1 - J - C)) := fun U => by
      conv => lhs; rw [split]
      rw [body_add, body_add]
    have hold := h.bytes
    rw [e0] at hold
    have l1 : (body V (f.first f.side) J).length = J * 64 := body_len h.rows (by omega)
    have l2 : (body V (f.first f.side + J) C).length = C * 64 := body_len h.rows (by omega)
    have p1 : body V (f.first f.side) J = (laid f.turn 1 fs).take (J * 64) := by
      have := congrArg (List.take (J * 64)) hold
      rw [List.take_append_of_le_length (by omega), List.take_of_length_le (by omega), List.take_append_of_le_length (by omega)] at this
      exact this
    have p3 : body V (f.first f.side + J + C) (f.half - 1 - J - C) = List.replicate ((f.half - 1 - J - C) * 64) 0 := by
      have := congrArg (List.drop (J * 64 + C * 64)) hold
      rw [← List.append_assoc, List.drop_append, List.drop_of_length_le (by rw [List.length_append]; omega), List.length_append, l1, l2, Nat.sub_self, List.drop_zero, List.nil_append, List.drop_append, List.drop_of_length_le (by omega), List.nil_append, List.drop_replicate, hL] at this
      rw [this]; congr 1; omega
    rw [e0]
    have q1 : body (apnV V f fs p) (f.first f.side) J = body V (f.first f.side) J := body_same hlen J _ (by rw [hlen]; omega) (fun j h1 h2 => by
      unfold apnV; rw [hJ]; exact putc_get _ _ _ _ _ (.inl h2))
    have q2 : body (apnV V f fs p) (f.first f.side + J) C = apnB f fs p ++ List.replicate (C * 64 - (apnB f fs p).length) 0 := by
      unfold apnV; rw [hJ, hC]
      rw [body_putc _ _ (C * 64 - (apnB f fs p).length) C (by omega) (by omega), List.take_of_length_le (by rw [List.length_append, List.length_replicate]; omega)]
    have q3 : body (apnV V f fs p) (f.first f.side + J + C) (f.half - 1 - J - C) = body V (f.first f.side + J + C) (f.half - 1 - J - C) := body_same hlen _ _ (by rw [hlen]; omega) (fun j h1 h2 => by
      unfold apnV; rw [hJ, hC]; exact putc_get _ _ _ _ _ (.inr h1))
    rw [q1, q2, q3, p1, p3, List.append_assoc, List.replicate_append_replicate, ← List.append_assoc]
    have e5 : (laid f.turn 1 fs).take (J * 64) ++ apnB f fs p = laid f.turn 1 (fs ++ [p]) := by
      unfold apnB tailOf
      rw [hJ, ← List.append_assoc, List.take_append_drop, laid_snoc, Nat.add_comm 1]
    rw [e5, sizes_snoc]
    congr 2; omega
  refine { ok := ⟨h.ok.at_, hh, hs, h.ok.turn, by show f.en + _ ≤ _; rw [h.en]; omega, by show f.n + 1 ≤ _; rw [h.n]; exact hn⟩, geo := by rw [hlen]; exact h.geo, len := by rw [hlen]; exact h.len, rows := putc_rows h.rows _ _ _, head := ?_, turn := h.turn, en := by rw [sizes_snoc]; show f.en + _ = _; rw [h.en], n := by rw [List.length_append]; show f.n + 1 = _; rw [h.n]; rfl, some_ := by simp, fits := by rw [sizes_snoc]; exact hfit, bytes := hbody, other := ?_ }
  · show ((apnV V f fs p).getD (f.first f.side - 1) []).take 16 = hdr f.turn
    unfold apnV
    rw [putc_get _ _ _ _ _ (.inl (by omega))]; exact h.head
  · obtain ⟨t, ht, ho⟩ := h.other
    refine ⟨t, ht, ?_⟩
    show ((apnV V f fs p).getD (f.first (1 - f.side) - 1) []).take 16 = hdr t
    unfold apnV
    rw [putc_get _ _ _ _ _ (by rw [hJ, hC]; omega)]; exact ho
end Go.Proofs.Ytlkglhgndfhjeaa
