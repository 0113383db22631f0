/- The ledger's bytes, plainly: frames, what is laid, what is read. -/
import Derived.Test.YtlkglhgndfhjeaaSumB
namespace Go.Proofs.Ytlkglhgndfhjeaa
open Go Go.RowKit
set_option linter.unusedVariables false
set_option linter.unusedSimpArgs false

/-- A number of four bytes, the highest first; and back. -/
def put32 (n : Nat) : List UInt8 := [UInt8.ofNat (n / 16777216 % 256), UInt8.ofNat (n / 65536 % 256), UInt8.ofNat (n / 256 % 256), UInt8.ofNat (n % 256)]
def get32 (l : List UInt8) : Nat := (l.getD 0 0).toNat * 16777216 + (l.getD 1 0).toNat * 65536 + (l.getD 2 0).toNat * 256 + (l.getD 3 0).toNat
theorem put32_len (n : Nat) : (put32 n).length = 4 := rfl
theorem get_put (n : Nat) (h : n < 4294967296) (r : List UInt8) : get32 (put32 n ++ r) = n := by
  have e : ∀ m, m < 256 → (UInt8.ofNat m).toNat = m := fun m hm => by simp; omega
  simp only [get32, put32, List.cons_append, List.getD_cons_zero, List.getD_cons_succ]
  rw [e _ (by omega), e _ (by omega), e _ (by omega), e _ (by omega)]
  omega
theorem get32_lt (l : List UInt8) : get32 l < 4294967296 := by
  unfold get32
  have h0 := (l.getD 0 0).toNat_lt; have h1 := (l.getD 1 0).toNat_lt; have h2 := (l.getD 2 0).toNat_lt; have h3 := (l.getD 3 0).toNat_lt
  omega
def num8 (n : Nat) : List UInt8 := put32 (n / 4294967296 % 4294967296) ++ put32 (n % 4294967296)
theorem num8_len (n : Nat) : (num8 n).length = 8 := rfl
def mark (t n : Nat) (b : List UInt8) : Nat := crc (num8 t ++ put32 n ++ b) / 256 * 256 + 1
theorem mark_lt (t n : Nat) (b : List UInt8) : 0 < mark t n b ∧ mark t n b < 4294967296 := by
  unfold mark
  have := crc_lt (num8 t ++ put32 n ++ b)
  omega
def frm (t n : Nat) (p : List UInt8) : List UInt8 := put32 p.length ++ p ++ put32 (mark t n (put32 p.length ++ p))
theorem frm_len (t n : Nat) (p : List UInt8) : (frm t n p).length = p.length + 8 := by simp [frm, put32_len]; omega
def hdr (t : Nat) : List UInt8 := num8 t ++ num8 t
theorem hdr_len (t : Nat) : (hdr t).length = 16 := rfl
/-- Frames from number n on. -/
def laid (t : Nat) : Nat → List (List UInt8) → List UInt8
  | _, [] => []
  | n, p :: ps => frm t n p ++ laid t (n + 1) ps
def sizes : List (List UInt8) → Nat
  | [] => 0
  | p :: ps => p.length + 8 + sizes ps
theorem laid_len (t : Nat) : ∀ (n : Nat) (ps : List (List UInt8)), (laid t n ps).length = sizes ps
  | _, [] => rfl
  | n, p :: ps => by simp only [laid, sizes, List.length_append, frm_len, laid_len t (n + 1) ps]
theorem laid_snoc (t : Nat) : ∀ (n : Nat) (ps : List (List UInt8)) (p : List UInt8), laid t n (ps ++ [p]) = laid t n ps ++ frm t (n + ps.length) p
  | n, [], p => by simp [laid]
  | n, q :: ps, p => by
    simp only [List.cons_append, laid, laid_snoc t (n + 1) ps p, List.append_assoc, List.length_cons]
    rw [show n + 1 + ps.length = n + (ps.length + 1) from by omega]
theorem sizes_snoc : ∀ (ps : List (List UInt8)) (p : List UInt8), sizes (ps ++ [p]) = sizes ps + (p.length + 8)
  | [], p => by simp [sizes]
  | q :: ps, p => by simp only [List.cons_append, sizes, sizes_snoc ps p]; omega
/-- Is there a whole frame at the beginning? -/
def whole (t n : Nat) (p : List UInt8) : Prop := 8 ≤ p.length ∧ get32 p ≤ p.length - 8 ∧ get32 (p.drop (4 + get32 p)) = mark t n (p.take (4 + get32 p))
theorem whole_frm {t n : Nat} {p : List UInt8} (hp : p.length < 4294967296) (r : List UInt8) : whole t n (frm t n p ++ r) ∧ get32 (frm t n p ++ r) = p.length ∧ (frm t n p ++ r).drop (8 + p.length) = r ∧ ((frm t n p ++ r).drop 4).take p.length = p := by
  have e1 : frm t n p ++ r = put32 p.length ++ (p ++ (put32 (mark t n (put32 p.length ++ p)) ++ r)) := by simp [frm, List.append_assoc]
  have e2 : get32 (frm t n p ++ r) = p.length := by rw [e1]; exact get_put _ hp _
  have e3 : frm t n p ++ r = (put32 p.length ++ p) ++ (put32 (mark t n (put32 p.length ++ p)) ++ r) := by rw [e1, List.append_assoc]
  have hl : (put32 p.length ++ p).length = 4 + p.length := by rw [List.length_append, put32_len]
  refine ⟨⟨by rw [List.length_append, frm_len]; omega, by rw [e2, List.length_append, frm_len]; omega, ?_⟩, e2, ?_, ?_⟩
  · rw [e2, ← hl]
    conv => lhs; rw [e3]
    rw [List.drop_left, get_put _ (mark_lt _ _ _).2]
    congr 1
    rw [e3, List.take_left]
  · rw [show 8 + p.length = (frm t n p).length from by rw [frm_len]; omega, List.drop_left]
  · rw [e1, show 4 = (put32 p.length).length from rfl, List.drop_left, List.take_left]
theorem whole_zero {t n m : Nat} : ¬ whole t n (List.replicate m 0) := by
  rintro ⟨h1, h2, h3⟩
  have hz : ∀ k, get32 (List.replicate k (0 : UInt8)) = 0 := fun k => by
    have : ∀ i, (List.replicate k (0 : UInt8)).getD i 0 = 0 := fun i => by
      rw [List.getD_eq_getElem?_getD, List.getElem?_replicate]; split <;> rfl
    unfold get32; rw [this, this, this, this]; rfl
  rw [List.drop_replicate, hz] at h3
  have := (mark_lt t n ((List.replicate m (0 : UInt8)).take (4 + get32 (List.replicate m 0)))).1
  omega
instance (t n : Nat) (p : List UInt8) : Decidable (whole t n p) := by unfold whole; infer_instance
/-- What is read: the whole frames. -/
def scanP (t : Nat) : Nat → Nat → List UInt8 → List (List UInt8)
  | 0, _, _ => []
  | f + 1, n, p => bif decide (whole t n p) then (p.drop 4).take (get32 p) :: scanP t f (n + 1) (p.drop (8 + get32 p)) else []
theorem scanP_laid (t : Nat) : ∀ (ps : List (List UInt8)) (f n m : Nat), ps.length < f → (∀ p ∈ ps, p.length < 4294967296) → scanP t f n (laid t n ps ++ List.replicate m 0) = ps
  | [], f + 1, n, m, _, _ => by
    rw [show laid t n [] ++ List.replicate m 0 = List.replicate m 0 from rfl]
    unfold scanP
    rw [decide_eq_false whole_zero]; rfl
  | p :: ps, f + 1, n, m, hf, hp => by
    obtain ⟨h1, h2, h3, h4⟩ := whole_frm (t := t) (n := n) (p := p) (hp p List.mem_cons_self) (laid t (n + 1) ps ++ List.replicate m 0)
    have e : laid t n (p :: ps) ++ List.replicate m 0 = frm t n p ++ (laid t (n + 1) ps ++ List.replicate m 0) := by simp [laid, List.append_assoc]
    rw [e]
    unfold scanP
    rw [decide_eq_true h1, cond_true, h2, h3, h4, scanP_laid t ps f (n + 1) m (by simp at hf; omega) (fun q hq => hp q (List.mem_cons_of_mem _ hq))]
end Go.Proofs.Ytlkglhgndfhjeaa
