/- Package wire: the reader: Read, Bad, End, fail, Uint, Int, Text. -/
import Derived.Test.YtoojnpafcdaflaaWre
namespace Go.Proofs.Ytoojnpafcdaflaa
open Go Go.RowKit
set_option linter.unusedVariables false
set_option linter.unusedSimpArgs false

/-- The next number of some bytes, at most that; and what is left. -/
def decGo (most : Nat) : Nat → Nat → List UInt8 → Option (Nat × List UInt8)
  | _, _, [] => none
  | i, n, b :: r => if i = 9 ∧ 1 < b.toNat ∨ 0 < i ∧ b.toNat = 0 then none else if b.toNat < 128 then (if most < n + b.toNat * 128 ^ i then none else some (n + b.toNat * 128 ^ i, r)) else decGo most (i + 1) (n + (b.toNat % 128) * 128 ^ i) r
def decU (most : Nat) (l : List UInt8) : Option (Nat × List UInt8) := decGo most 0 0 l
theorem decGo_enc (most : Nat) : ∀ (i m acc : Nat) (r : List UInt8), i ≤ 9 → m * 128 ^ i < 18446744073709551616 → (0 < i → 0 < m) → acc + m * 128 ^ i ≤ most → decGo most i acc (encU m ++ r) = some (acc + m * 128 ^ i, r) := by
  intro i m
  induction m using Nat.strongRecOn generalizing i with
  | _ m ih =>
    intro acc r hi hm h0 hle
    have h9 : i = 9 → m ≤ 1 := by
      intro h; subst h
      have : (128 : Nat) ^ 9 = 9223372036854775808 := by decide
      rw [this] at hm; omega
    have hb : ∀ n : Nat, n < 256 → (UInt8.ofNat n).toNat = n := by intro n hn; simp; omega
    by_cases h : m < 128
    · rw [encU_small h, List.singleton_append]
      simp only [decGo]
      rw [hb m (by omega), if_neg (by omega), if_pos h, if_neg (by omega)]
    · have hi9 : i < 9 := by
        rcases Nat.lt_or_ge i 9 with h1 | h1
        · exact h1
        · have := h9 (by omega); omega
      rw [encU_big h, List.cons_append]
      simp only [decGo]
      rw [hb _ (by omega), if_neg (by omega), if_neg (by omega)]
      have e1 : (m % 128 + 128) % 128 = m % 128 := by omega
      have e2 : acc + m % 128 * 128 ^ i + m / 128 * 128 ^ (i + 1) = acc + m * 128 ^ i := by
        rw [Nat.pow_succ, Nat.add_assoc, ← Nat.mul_assoc, Nat.mul_right_comm, ← Nat.add_mul]
        congr 2
        omega
      rw [e1, ih (m / 128) (by omega) (i + 1) (acc + m % 128 * 128 ^ i) r (by omega) (by
        have : m / 128 * 128 ^ (i + 1) ≤ m * 128 ^ i := by
          rw [Nat.pow_succ, ← Nat.mul_assoc, Nat.mul_right_comm]
          exact Nat.mul_le_mul_right _ (Nat.div_mul_le_self m 128)
        omega) (fun _ => by omega) (by rw [e2]; exact hle), e2]

/-- The reader at b: it has l left; is there a fault? -/
def ReaderAt (w : World) (b : Nat) (l : List UInt8) (bad : Bool) : Prop := ∃ v, w.heap[b]? = some (.cells #[v, .bool bad] 101) ∧ Bytes w v l ∧ (0 < l.length → ∀ k, v.ownBlock = some k → k < b)
theorem ReaderAt.only {S : Nat → Prop} {w w' : World} {b : Nat} {l : List UInt8} {bad : Bool} (h : ReaderAt w b l bad) (ho : Only S w w') (hS : ∀ k, k < w.heap.size → ¬ S k) : ReaderAt w' b l bad := by
  obtain ⟨v, h1, h2, h3⟩ := h
  have hl := (Array.getElem?_eq_some_iff.1 h1).1
  have ho' : Only (fun _ => False) w w' := ho.mono (fun k hk h => hS k hk h)
  exact ⟨v, by rw [ho'.block _ hl (fun h => h)]; exact h1, h2.still ho', h3⟩
theorem ReaderAt.still {w w' : World} {b : Nat} {l : List UInt8} {bad : Bool} (h : ReaderAt w b l bad) (ho : Only (fun _ => False) w w') : ReaderAt w' b l bad := h.only ho (fun _ _ h => h)
/-- Blocks that are newer than the reader may turn. -/
theorem ReaderAt.past {S : Nat → Prop} {w w' : World} {b : Nat} {l : List UInt8} {bad : Bool} (h : ReaderAt w b l bad) (ho : Only S w w') (hS : ∀ k, S k → b < k) : ReaderAt w' b l bad := by
  obtain ⟨v, h1, h2, h3⟩ := h
  have hl := (Array.getElem?_eq_some_iff.1 h1).1
  exact ⟨v, by rw [ho.block _ hl (fun hs => Nat.lt_irrefl _ (hS b hs))]; exact h1, h2.only ho (fun hp k hk hs => by have := hS k hs; have := h3 hp k hk; omega), h3⟩
theorem ReaderAt.lt {w : World} {b : Nat} {l : List UInt8} {bad : Bool} (h : ReaderAt w b l bad) : b < w.heap.size := by
  obtain ⟨v, h1, _, _⟩ := h
  exact (Array.getElem?_eq_some_iff.1 h1).1
theorem ReaderAt.cells {w : World} {b : Nat} {l : List UInt8} {bad : Bool} (h : ReaderAt w b l bad) : ∃ a c, w.cell? ⟨b, 0, none⟩ = some (.slice a l.length c) ∧ w.cell? ⟨b, 1, none⟩ = some (.bool bad) ∧ (∀ o, w.frozen? ⟨b, o, none⟩ = false) ∧ l.length ≤ c ∧ c ≤ 9223372036854775807 ∧ Bytes w (.slice a l.length c) l ∧ (0 < l.length → ∀ k, (Value.slice a l.length c).ownBlock = some k → k < b) := by
  obtain ⟨v, h1, h2, h3⟩ := h
  have h2' := h2
  obtain ⟨a, c, rfl, g1, g2, g3⟩ := h2
  exact ⟨a, c, by simp [World.cell?, h1], by simp [World.cell?, h1], fun o => by simp [World.frozen?, h1], g1, g2, h2', h3⟩
theorem ReaderAt.fault {w : World} {b : Nat} {l : List UInt8} {bad : Bool} (h : ReaderAt w b l bad) : ReaderAt (w.setCell ⟨b, 1, none⟩ (.bool true)) b l true ∧ Only (fun k => k = b) w (w.setCell ⟨b, 1, none⟩ (.bool true)) := by
  obtain ⟨v, h1, h2, h3⟩ := h
  have ho := (Only.refl (fun k => k = b) w).setCell (p := ⟨b, 1, none⟩) (.inl rfl) (.bool true)
  exact ⟨⟨v, heap_set (o := 1) h1 _, h2.only ho (fun hp k hk e => absurd e (Nat.ne_of_lt (h3 hp k hk))), h3⟩, ho⟩
/-- The bytes that are left, cut. -/
theorem ReaderAt.cut {w : World} {b : Nat} {l : List UInt8} {a : Option Addr} {c : Nat} (h : ReaderAt w b l false) (hc : w.cell? ⟨b, 0, none⟩ = some (.slice a l.length c)) {m : Nat} (hm : m ≤ l.length) :
    ReaderAt (w.setCell ⟨b, 0, none⟩ (.slice (if c = m then a else a.map (fun x => x.add m)) (l.length - m) (c - m))) b (l.drop m) false ∧ Only (fun k => k = b) w (w.setCell ⟨b, 0, none⟩ (.slice (if c = m then a else a.map (fun x => x.add m)) (l.length - m) (c - m))) := by
  obtain ⟨v, h1, h2, h3⟩ := h
  have e : v = .slice a l.length c := by simpa [World.cell?, h1] using hc
  subst e
  have ho := (Only.refl (fun k => k = b) w).setCell (p := ⟨b, 0, none⟩) (.inl rfl) (.slice (if c = m then a else a.map (fun x => x.add m)) (l.length - m) (c - m))
  have hl : (l.drop m).length = l.length - m := List.length_drop
  refine ⟨⟨_, heap_set (o := 0) h1 _, ?_, ?_⟩, ho⟩
  · have hB := h2.only ho (fun hp k hk e => absurd e (Nat.ne_of_lt (h3 hp k hk)))
    clear ho
    generalize w.setCell ⟨b, 0, none⟩ (.slice (if c = m then a else a.map (fun x => x.add m)) (l.length - m) (c - m)) = w' at hB ⊢
    obtain ⟨a', c', e, g1, g2, g3⟩ := hB
    cases e
    refine ⟨_, _, by rw [hl], by rw [hl]; omega, by omega, fun hp => ?_⟩
    rw [hl] at hp
    obtain ⟨b2, off, rfl, hb, hr⟩ := g3 (by omega)
    rw [if_neg (by omega)]
    refine ⟨b2, off + m, by simp [addr_add], hb, fun j v hv => ?_⟩
    rw [u8s_drop, List.getElem?_drop] at hv
    rw [Nat.add_assoc]; exact hr _ _ hv
  · intro hp k hk
    rw [hl] at hp
    obtain ⟨a', c', e, g1, g2, g3⟩ := h2
    cases e
    obtain ⟨b2, off, rfl, hb, hr⟩ := g3 (by omega)
    rw [if_neg (by omega)] at hk
    refine h3 (by omega) k ?_
    simpa [Value.ownBlock, addr_add] using hk

theorem read_new (v : Value) (l : List UInt8) (w : World) (h : Bytes w v l) (hlt : 0 < l.length → ∀ k, v.ownBlock = some k → k < w.heap.size) :
    Calls Try.prog 31 #[v] w fun e w' => e = .returned (.pointer (some ⟨w.heap.size, 0, none⟩)) ∧ ReaderAt w' w.heap.size l false ∧ Only (fun _ => False) w w' := by
  have HB := Lib.hid h; have HL := Lib.hid hlt; clear hlt
  obtain ⟨a, c, rfl, g1, g2, g3⟩ := h
  clear g3
  have ho := (Only.refl (fun _ => False) w).alloc (.cells #[.slice a l.length c, .bool false] 101)
  have HO := Lib.hid ho; clear ho
  go_enter Try.func31, Try.ntmps31
  go_wp2
  go_ret
  exact ⟨rfl, ⟨_, heap_new w _, HB.out.still HO.out, fun hp k hk => by have := HL.out hp k hk; omega⟩, HO.out⟩
theorem bad_any (b : Nat) (l : List UInt8) (bad : Bool) (w : World) (h : ReaderAt w b l bad) : Calls Try.prog 36 #[.pointer (some ⟨b, 0, none⟩)] w fun e w' => e = .returned (.bool bad) ∧ w = w' := by
  obtain ⟨a, c, c0, c1, fz, g1, g2, _, _⟩ := h.cells
  clear h
  go_enter Try.func36, Try.ntmps36
  go_wp2
  go_ret
  exact ⟨rfl, rfl⟩
theorem bad_nil (w : World) : Calls Try.prog 36 #[.pointer none] w fun e w' => e = .returned (.bool true) ∧ w = w' := by
  go_enter Try.func36, Try.ntmps36
  go_wp2
  go_ret
  exact ⟨rfl, rfl⟩
theorem end_nil (w : World) : Calls Try.prog 35 #[.pointer none] w fun e w' => e = .returned (.bool false) ∧ w = w' := by
  go_enter Try.func35, Try.ntmps35
  go_wp2
  go_ret
  exact ⟨rfl, rfl⟩
theorem fail_nil (w : World) : Calls Try.prog 63 #[.pointer none] w fun e w' => e = .returned (.tuple #[]) ∧ w = w' := by
  go_enter Try.func63, Try.ntmps63
  go_wp2
  go_end0
  exact ⟨rfl, rfl⟩
theorem fail_any (b : Nat) (l : List UInt8) (bad : Bool) (w : World) (h : ReaderAt w b l bad) : Calls Try.prog 63 #[.pointer (some ⟨b, 0, none⟩)] w fun e w' => e = .returned (.tuple #[]) ∧ ReaderAt w' b l true ∧ Only (fun k => k = b) w w' := by
  obtain ⟨a, c, c0, c1, fz, g1, g2, _, _⟩ := h.cells
  have H := Lib.hid h.fault; clear h
  go_enter Try.func63, Try.ntmps63
  go_wp2
  go_end0
  exact ⟨rfl, H.out.1, H.out.2⟩
theorem ruint_nil (n : Int) (w : World) : Calls Try.prog 32 #[.pointer none, .int .u64 n] w fun e w' => e = .returned (.int .u64 0) ∧ w = w' := by
  go_enter Try.func32, Try.ntmps32
  go_wp2
  go_ret
  exact ⟨rfl, rfl⟩
theorem ruint_bad (b : Nat) (l : List UInt8) (n : Int) (w : World) (h : ReaderAt w b l true) : Calls Try.prog 32 #[.pointer (some ⟨b, 0, none⟩), .int .u64 n] w fun e w' => e = .returned (.int .u64 0) ∧ w = w' := by
  obtain ⟨a, c, c0, c1, fz, g1, g2, _, _⟩ := h.cells
  clear h
  go_enter Try.func32, Try.ntmps32
  go_wp2
  go_ret
  exact ⟨rfl, rfl⟩
end Go.Proofs.Ytoojnpafcdaflaa
