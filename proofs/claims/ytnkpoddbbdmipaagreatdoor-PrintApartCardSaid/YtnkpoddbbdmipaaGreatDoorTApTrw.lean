/- . -/
import Derived.Test.YtnkpoddbbdmipaaGreatDoorTApText
namespace Go.Proofs.YtnkpoddbbdmipaaGreatDoor
open Go Go.RowKit
set_option linter.unusedVariables false
set_option linter.unusedSimpArgs false
theorem oneP_at {L : List UInt8} {c : UInt8} {l : List UInt8} (h : L = c :: l) : oneP L =
  if letB c then (if 32 < runL ldB L then .bad 0 2 else .ok 1 (L.take (runL ldB L)) 0 (runL ldB L))
  else if c.toNat = 45 ∨ digB c = true then numP L
  else if c.toNat = 34 then txtP [] 1 l
  else if dotsB L then .ok 4 [46, 46, 46] 0 3
  else if signB c then .ok 4 [c] 0 1
  else .bad 0 4 := by subst h; rfl
def tokC (t : Tok) : List Value := [.int .u8 (t.kind : Int), .string ⟨t.text.toArray⟩, .int .i64 t.n, .int .i64 (t.at_ : Int)]
def toksC : List Tok → List Value
 | [] => []
 | t :: ts => tokC t ++ toksC ts
theorem toksC_len : ∀ ts, (toksC ts).length = ts.length * 4
 | [] => rfl
 | t :: ts => by show (tokC t ++ toksC ts).length = _; rw [List.length_append, toksC_len ts, List.length_cons]; show 4 + _ = _; omega
theorem toksC_app : ∀ ts us, toksC (ts ++ us) = toksC ts ++ toksC us
 | [], us => rfl
 | t :: ts, us => by show tokC t ++ toksC (ts ++ us) = tokC t ++ toksC ts ++ toksC us; rw [toksC_app ts us, List.append_assoc]
theorem toksC_snoc (ts : List Tok) (t : Tok) : toksC ts ++ tokC t = toksC (ts ++ [t]) := by rw [toksC_app]; show _ = _ ++ (tokC t ++ []); rw [List.append_nil]
theorem range_of_block {w : World} {b : Nat} {cs : List Value} {e : TypeId} {fr : Nat × Nat} (h : w.heap[b]? = some (.cells cs.toArray e fr)) : w.rangeAt b 0 cs := by
 intro j v hv; simp only [World.cell?, h]; simpa using hv
theorem numP_off {l : List UInt8} {off e : Nat} (h : numP l = .bad off e) (hl : l ≠ []) : off ≤ l.length ∧ 0 < e ∧ e ≤ 4 := by
 have h0 : 1 ≤ l.length := by cases l with | nil => exact absurd rfl hl | cons => simp
 have h1 := numFrom_le l; have h2 := runL_le digB (l.drop (numFrom l)); rw [List.length_drop] at h2; rw [numP_at rfl rfl] at h
 split at h
 ·injection h with a b; omega
 ·split at h
  ·injection h with a b; omega
  ·split at h
   ·injection h with a b; omega
   ·split at h
    ·injection h with a b; omega
    ·cases h
theorem txtP_off : ∀ (n : Nat) (l acc : List UInt8) (k : Nat) {off e : Nat}, l.length ≤ n → txtP acc k l = .bad off e → off ≤ k + l.length ∧ 0 < e ∧ e ≤ 4
 | _, [], acc, k, off, e, _, h => by rw [txtP_nil] at h; injection h with a b; simp; omega
 | 0, _ :: _, _, _, _, _, hn, _ => by simp at hn
 | n + 1, c :: l, acc, k, off, e, hn, h => by
  simp only [List.length_cons] at hn ⊢
  by_cases h1 : c.toNat = 34
  ·rw [txtP_q _ _ _ h1] at h
   split at h
   ·injection h with a b; omega
   ·cases h
  by_cases h2 : c.toNat = 10
  ·rw [txtP_n _ _ _ h2] at h; injection h with a b; omega
  by_cases h3 : c.toNat = 92
  ·cases l with
   | nil => rw [txtP_e0 _ _ h3] at h; injection h with a b; simp; omega
   | cons d l =>
    rw [txtP_e _ _ _ _ h3] at h; simp only [List.length_cons] at hn ⊢
    split at h
    ·have := txtP_off n l _ _ (by omega) h; omega
    ·injection h with a b; omega
  rw [txtP_o _ _ _ h1 h2 h3] at h; have := txtP_off n l _ _ (by omega) h; omega
theorem oneP_off {l : List UInt8} {off e : Nat} (h : oneP l = .bad off e) : off ≤ l.length ∧ 0 < e ∧ e ≤ 4 := by
 cases l with
 | nil => simp only [oneP] at h; injection h with a b; simp; omega
 | cons c l =>
  rw [oneP_at rfl] at h
  split at h
  ·split at h
   ·injection h with a b; omega
   ·cases h
  ·split at h
   ·exact numP_off h (by simp)
   ·split at h
    ·have := txtP_off _ _ _ _ (Nat.le_refl _) h; simp only [List.length_cons]; omega
    ·split at h
     ·cases h
     ·split at h
      ·cases h
      ·injection h with a b; omega
def TRow (w : World) (v : Value) (ts : List Tok) : Prop :=
 (v = .slice none 0 0 ∧ ts = []) ∨ ∃ g off c, v = .slice (some ⟨g, off, none⟩) ts.length c ∧ ts.length ≤ c ∧ c ≤ maxLen ∧ g < w.heap.size ∧ w.rangeAt g off (toksC ts)
theorem toksC_get : ∀ (ts : List Tok) (i : Nat) (h : i < ts.length) (j : Nat) (v : Value), (tokC ts[i])[j]? = some v → (toksC ts)[i * 4 + j]? = some v
 | [], i, h, _, _, _ => absurd h (by simp)
 | t :: ts, 0, h, j, v, hj => by
  show (tokC t ++ toksC ts)[0 * 4 + j]? = some v
  have hl : j < (tokC t).length := by
   rcases Nat.lt_or_ge j (tokC t).length with h | h
   ·exact h
   ·rw [List.getElem?_eq_none (by simpa using h)] at hj; cases hj
  rw [Nat.zero_mul, Nat.zero_add, List.getElem?_append_left hl]; exact hj
 | t :: ts, i + 1, h, j, v, hj => by
  show (tokC t ++ toksC ts)[(i + 1) * 4 + j]? = some v
  have h4 : (tokC t).length = 4 := rfl; rw [List.getElem?_append_right (by omega), h4, show (i + 1) * 4 + j - 4 = i * 4 + j from by omega]; exact toksC_get ts i (by simpa using h) j v hj
theorem TRow.at_ {w : World} {v : Value} {ts : List Tok} (h : TRow w v ts) {i : Nat} (hi : i < ts.length) : ∃ g off c, v = .slice (some ⟨g, off, none⟩) ts.length c ∧ ts.length ≤ c ∧ c ≤ maxLen ∧ g < w.heap.size ∧
  ∀ i (hi : i < ts.length), w.cell? ⟨g, off + i * 4, none⟩ = some (.int .u8 (ts[i].kind : Int)) ∧ w.cell? ⟨g, off + i * 4 + 1, none⟩ = some (.string ⟨ts[i].text.toArray⟩) ∧ w.cell? ⟨g, off + i * 4 + 2, none⟩ = some (.int .i64 ts[i].n) ∧ w.cell? ⟨g, off + i * 4 + 3, none⟩ = some (.int .i64 (ts[i].at_ : Int)) := by
 rcases h with ⟨_, rfl⟩ | ⟨g, off, c, h1, h2, h3, h4, h5⟩
 ·simp at hi
 ·refine ⟨g, off, c, h1, h2, h3, h4, fun i hi => ⟨?_, ?_, ?_, ?_⟩⟩
  ·exact h5 (i * 4) _ (by have := toksC_get ts i hi 0 _ rfl; simpa using this)
  ·exact h5 (i * 4 + 1) _ (toksC_get ts i hi 1 _ rfl)
  ·exact h5 (i * 4 + 2) _ (toksC_get ts i hi 2 _ rfl)
  ·exact h5 (i * 4 + 3) _ (toksC_get ts i hi 3 _ rfl)
theorem TRow.of_own {w : World} {B : Nat} {E : TypeId} {v : Value} {ts : List Tok} (h : w.ownsRow B E 4 v ts.length (toksC ts)) (hn : 0 < ts.length) : TRow w v ts := by
 obtain ⟨g, c, hv, _, hg, hr⟩ := own_range h hn; obtain ⟨a, c', hv', h1, h2, _⟩ := own_form h; rw [hv] at hv'
 injection hv' with _ _ e
 exact .inr ⟨g, 0, c, hv, by omega, by omega, hg, hr⟩
theorem TRow.only {S : Nat → Prop} {w w' : World} {v : Value} {ts : List Tok} (h : TRow w v ts) (ho : Only S w w') (hS : ∀ a n c, v = .slice (some a) n c → ¬ S a.block) : TRow w' v ts := by
 rcases h with h | ⟨g, off, c, h1, h2, h3, h4, h5⟩
 ·exact .inl h
 ·refine .inr ⟨g, off, c, h1, h2, h3, Nat.lt_of_lt_of_le h4 ho.size, fun j u hu => ?_⟩
  have := h5 j u hu; simp only [World.cell?] at this ⊢; rw [ho.block g h4 (hS _ _ _ h1)]; exact this
theorem TRow.still {w w' : World} {v : Value} {ts : List Tok} (h : TRow w v ts) (ho : Only (fun _ => False) w w') : TRow w' v ts := h.only ho (fun _ _ _ _ h => h)
theorem TRow.drop {w : World} {a : Option Addr} {n c : Nat} {ts : List Tok} (h : TRow w (.slice a n c) ts) {k : Nat} (hk : k < ts.length) : ∃ g off, a = some ⟨g, off, none⟩ ∧ n = ts.length ∧ TRow w (.slice (some ⟨g, off + k * 4, none⟩) (ts.length - k) (c - k)) (ts.drop k) := by
 rcases h with ⟨_, rfl⟩ | ⟨g, off, c', h1, h2, h3, h4, h5⟩
 ·simp at hk
 ·injection h1 with e1 e2 e3
  subst e3; refine ⟨g, off, e1, e2, .inr ⟨g, off + k * 4, c - k, by rw [List.length_drop], by rw [List.length_drop]; omega, by omega, h4, fun j u hu => ?_⟩⟩
  have e : toksC ts = toksC (ts.take k) ++ toksC (ts.drop k) := by rw [← toksC_app, List.take_append_drop]
  have := h5 (k * 4 + j) u (by
   have hl : (toksC (ts.take k)).length = k * 4 := by rw [toksC_len, List.length_take]; congr 1; omega
   rw [e, List.getElem?_append_right (by omega), hl, Nat.add_sub_cancel_left]; exact hu)
  rw [Nat.add_assoc]; exact this
theorem TRow.form {w : World} {v : Value} {ts : List Tok} (h : TRow w v ts) : ∃ a c, v = .slice a ts.length c := by
 rcases h with ⟨rfl, rfl⟩ | ⟨g, off, c, rfl, _⟩
 ·exact ⟨none, 0, rfl⟩
 ·exact ⟨_, _, rfl⟩
end Go.Proofs.YtnkpoddbbdmipaaGreatDoor
