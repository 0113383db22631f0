/- Sealed bytes of a writer's own; a byte of own bytes written; the numbers of a turned bit. -/
import Derived.Test.YtoojnpafcdaflaaOpn
import Derived.Test.YtoojnpafcdaflaaSls
import Derived.Laws.BitsAllLaws
import Derived.Laws.BitsLemmas
namespace Go.Proofs.Ytoojnpafcdaflaa
open Go Go.RowKit
set_option linter.unusedVariables false
set_option linter.unusedSimpArgs false
set_option maxRecDepth 100000

theorem wSealed_s (F : Nat → Prop) (b : Nat) (w1 : World) (l : List UInt8) (w : World) (h : WS F b w1 l w) (hl : l.length ≤ 100000000000) :
    Calls Try.prog 21 #[.pointer (some ⟨b, 0, none⟩)] w (Makes w (sealed l)) := by
  obtain ⟨F1, ⟨_, v, g1, g2, _⟩, h2, h3⟩ := h
  exact wSealed b v l w g1 g2.bytes hl
theorem u8s_set (l : List UInt8) (j : Nat) (x : UInt8) : u8s (l.set j x) = (u8s l).set j (.int .u8 (x.toNat : Int)) := by
  unfold u8s; rw [List.map_set]
theorem own8_set {w : World} {B g c : Nat} {l : List UInt8} (h : Own8 w B (.slice (some ⟨g, 0, none⟩) l.length c) l) {j : Nat} (hj : j < l.length) (x : UInt8) : Own8 (w.setCell ⟨g, j, none⟩ (.int .u8 (x.toNat : Int))) B (.slice (some ⟨g, 0, none⟩) (l.set j x).length c) (l.set j x) := by
  obtain ⟨a, c', e, h⟩ := h
  injection e with e1 e2 e3
  subst e1; subst e3
  refine ⟨some ⟨g, 0, none⟩, c, by rfl, ?_⟩
  rw [List.length_set, u8s_set]
  obtain ⟨h1, h2⟩ := h
  rcases h2 with ⟨e, _⟩ | ⟨g', cap, cur, e, hg, hh, h3, h4, h5, h6⟩
  · cases e
  · injection e with e _ e3
    injection e with e
    injection e with e1
    subst e1; subst e3
    refine ⟨by simpa using h1, .inr ⟨g, c, cur.setIfInBounds j _, rfl, hg, heap_set hh _, h3, h4, by simpa using h5, ?_⟩⟩
    rw [Array.toList_setIfInBounds, List.take_set, h6]
theorem own8_facts {w : World} {B : Nat} {v : Value} {l : List UInt8} (h : Own8 w B v l) (hp : 0 < l.length) : ∃ g c, v = .slice (some ⟨g, 0, none⟩) l.length c ∧ B ≤ g ∧ g < w.heap.size ∧ (∀ o, w.frozen? ⟨g, o, none⟩ = false) ∧ ∀ j (hj : j < l.length), w.cell? ⟨g, j, none⟩ = some (.int .u8 ((l[j].toNat : Nat) : Int)) := by
  obtain ⟨a, c, rfl, h⟩ := h
  obtain ⟨g, c', e, h1, h2, h3⟩ := own_range h hp
  injection e with e1 e2 e3
  subst e1
  refine ⟨g, c, rfl, h1, h2, (own_free h).1, fun j hj => ?_⟩
  have := h3 j (.int .u8 ((l[j].toNat : Nat) : Int)) (by simp [u8s, hj])
  rwa [Nat.zero_add] at this
theorem pow_byte {t : Nat} (h : t < 8) : 2 ^ t < 256 := Nat.lt_of_lt_of_le (Nat.pow_lt_pow_right (by decide) h) (by decide)
theorem pow_mod_byte {t : Nat} (h : t < 8) : (2 : Int) ^ t % 256 = ((2 ^ t : Nat) : Int) := by
  have h1 := pow_byte h
  rw [show (2 : Int) ^ t = ((2 ^ t : Nat) : Int) from by simp]
  exact Int.emod_eq_of_lt (Int.natCast_nonneg _) (Int.ofNat_lt.2 h1)
theorem x8 (a b : Nat) (ha : a < 256) (hb : b < 256) : bits .xor .u8 (a : Int) (b : Int) = ((a ^^^ b : Nat) : Int) := by
  have hx : a ^^^ b < 256 := Nat.xor_lt_two_pow (n := 8) ha hb
  have e : ∀ n : Nat, n < 256 → (BitVec.ofInt 8 (n : Int)).toNat = n := fun n hn => by
    rw [BitVec.ofInt_natCast, BitVec.toNat_ofNat]; exact Nat.mod_eq_of_lt hn
  show IntKind.u8.wrap ((BitVec.ofInt 8 (a : Int) ^^^ BitVec.ofInt 8 (b : Int)).toNat : Int) = _
  rw [BitVec.toNat_xor, e a ha, e b hb, IntKind.wrap_u8]; omega
theorem x8p {a t : Nat} (ha : a < 256) (ht : t < 8) : bits .xor .u8 (a : Int) ((2 : Int) ^ t) = ((a ^^^ 2 ^ t : Nat) : Int) := by
  rw [show (2 : Int) ^ t = ((2 ^ t : Nat) : Int) from by simp]
  exact x8 a _ ha (pow_byte ht)
theorem xor_byte {a t : Nat} (ha : a < 256) (ht : t < 8) : a ^^^ 2 ^ t < 256 := Nat.xor_lt_two_pow (n := 8) ha (pow_byte ht)
theorem decide_low {p i : Nat} (h : p / 2 ^ i % 2 = 1) : true = decide (p % 2 ^ (i + 1) ≠ 0) := by
  have hlt : p % 2 ^ i < 2 ^ i := Nat.mod_lt _ (Nat.two_pow_pos i)
  have hne : p % 2 ^ (i + 1) ≠ 0 := fun e => by
    have hb : (p % 2 ^ (i + 1)).testBit i = true := by
      rw [Nat.testBit_mod_two_pow, Nat.testBit_eq_decide_div_mod_eq]; simp [h]
    rw [e] at hb; simp at hb
  simp [hne]
theorem byte_of {m : Nat} (h : m < 256) : ∃ x : UInt8, x.toNat = m := ⟨UInt8.ofNat m, by simp; omega⟩
theorem bit_not {m : Nat} (h : ¬ m % 2 = 1) : (((m % 2 : Nat) : Int) == 1) = false := by
  rw [show m % 2 = 0 from by omega]; rfl
/-- The number of what Open tells. -/
def OpenCode (l : List UInt8) (c : Int) : Prop := (l.length < 4 ∧ c = 3) ∨ (4 ≤ l.length ∧ ¬ Sealed l ∧ c = 14) ∨ (Sealed l ∧ c = 0)
theorem OpenCode.one {l : List UInt8} {c c' : Int} (h : OpenCode l c) (h' : OpenCode l c') : c = c' := by
  have hs : Sealed l → 4 ≤ l.length := fun ⟨m, hm⟩ => by rw [hm, sealed_len]; omega
  rcases h with ⟨h1, h2⟩ | ⟨h1, h2, h3⟩ | ⟨h1, h2⟩ <;> rcases h' with ⟨k1, k2⟩ | ⟨k1, k2, k3⟩ | ⟨k1, k2⟩ <;> first | omega | exact absurd k1 h2 | exact absurd h1 k2 | (have := hs h1; omega) | (have := hs k1; omega)
theorem ROpen.code {w w' : World} {l : List UInt8} {e : Ending} (h : ROpen w l e w') : ∃ v c, e = .returned (.tuple #[v, .int .i64 c]) ∧ OpenCode l c ∧ Only (fun _ => False) w w' := by
  obtain ⟨ho, ⟨h1, h2⟩ | ⟨h1, h2, h3⟩ | ⟨m, b, h1, h2, _⟩⟩ := h
  · exact ⟨_, _, h2, .inl ⟨h1, rfl⟩, ho⟩
  · exact ⟨_, _, h3, .inr (.inl ⟨h1, h2, rfl⟩), ho⟩
  · exact ⟨_, _, h2, .inr (.inr ⟨⟨m, h1⟩, rfl⟩), ho⟩
theorem RrOpen.code {w w' : World} {l : List UInt8} {e : Ending} (h : RrOpen w l e w') : ∃ v c, e = .returned (.tuple #[v, .int .i64 c]) ∧ OpenCode l c ∧ Only (fun _ => False) w w' := by
  obtain ⟨ho, ⟨h1, h2⟩ | ⟨h1, h2, h3⟩ | ⟨m, b, h1, h2, _⟩⟩ := h
  · exact ⟨_, _, h2, .inl ⟨h1, rfl⟩, ho⟩
  · exact ⟨_, _, h3, .inr (.inl ⟨h1, h2, rfl⟩), ho⟩
  · exact ⟨_, _, h2, .inr (.inr ⟨⟨m, h1⟩, rfl⟩), ho⟩
/-- Sealed bytes, turned: what Open tells of them. -/
theorem turned_code {L0 L : List UInt8} {k P : Nat} {c : Int} (h0 : Sealed L0) (hl : L.length = L0.length) (hk : k ≤ 8 * L0.length) (hP : P < 4294967296) (hn : num L0 ^^^ num L = 2 ^ k * P) (h : OpenCode L c) : (P ≠ 0 ∧ c = 14) ∨ (P = 0 ∧ c = 0 ∧ L = L0) := by
  have h4 : 4 ≤ L0.length := by obtain ⟨m, hm⟩ := h0; rw [hm, sealed_len]; omega
  by_cases hp : P = 0
  · subst hp
    rw [Nat.mul_zero] at hn
    have hn2 : num L0 = num L := by
      have := congrArg (fun x => x ^^^ num L) hn
      simpa [Nat.xor_assoc] using this
    have e := num_inj hl.symm hn2
    subst e
    exact .inr ⟨rfl, h.one (.inr (.inr ⟨h0, rfl⟩)), rfl⟩
  · have hns : ¬ Sealed L := fun hs => hp (burst h0 hs hl.symm hP hk hn)
    exact .inl ⟨hp, h.one (.inr (.inl ⟨by omega, hns, rfl⟩))⟩
theorem num_next {L0 L : List UInt8} {k i pt j t : Nat} {x : UInt8} (hn : num L0 ^^^ num L = 2 ^ k * (pt % 2 ^ i)) (hj : j < L.length) (ht : t < 8) (hx : x.toNat = L[j].toNat ^^^ 2 ^ t) (hq : 8 * j + t = k + i) (hb : pt / 2 ^ i % 2 = 1) : num L0 ^^^ num (L.set j x) = 2 ^ k * (pt % 2 ^ (i + 1)) := by
  rw [num_turn L j t x hj ht (by rw [hx, List.getD_eq_getElem?_getD, List.getElem?_eq_getElem hj]; rfl), ← Nat.xor_assoc, hn, low_succ, if_pos hb, mul_xor_pow, hq, Nat.pow_add]
theorem low_lt {p i : Nat} (hi : i ≤ 32) : p % 2 ^ i < 4294967296 :=
  Nat.lt_of_lt_of_le (Nat.mod_lt _ (Nat.two_pow_pos i)) (Nat.le_trans (Nat.pow_le_pow_right (by decide) hi) (by decide))
end Go.Proofs.Ytoojnpafcdaflaa
