/- Entities, plainly: rising names as the law asks them; entities that came in, opened. -/
import Derived.Test.YtoojnpafcdaflaaRen
import Derived.Test.YtoojnpafcdaflaaTrv
namespace Go.Proofs.Ytoojnpafcdaflaa
open Go Go.RowKit
set_option linter.unusedVariables false
set_option linter.unusedSimpArgs false
set_option maxRecDepth 100000

theorem bl_iff : ∀ x y : List UInt8, Op.bytesLess x y = true ↔ (Op.bytesLess y x = false ∧ x ≠ y)
  | [], [] => by simp [Op.bytesLess]
  | [], b :: y => by simp [Op.bytesLess]
  | a :: x, [] => by simp [Op.bytesLess]
  | a :: x, b :: y => by
    have ih := bl_iff x y
    have h3 : a < b ∨ a = b ∨ b < a := by
      have hab : a.toNat < b.toNat ∨ a.toNat = b.toNat ∨ b.toNat < a.toNat := by omega
      rcases hab with h | h | h
      · exact .inl (UInt8.lt_iff_toNat_lt.2 h)
      · exact .inr (.inl (UInt8.toNat_inj.1 h))
      · exact .inr (.inr (UInt8.lt_iff_toNat_lt.2 h))
    rcases h3 with h | h | h
    · have h1 : ¬ b < a := by rw [UInt8.lt_iff_toNat_lt] at h ⊢; omega
      have h2 : ¬ b = a := fun e => by subst e; exact h1 h
      have h4 : ¬ a = b := fun e => h2 e.symm
      simp [Op.bytesLess, h, h1, h2, h4]
    · subst h
      have h1 : ¬ a < a := by rw [UInt8.lt_iff_toNat_lt]; omega
      simp [Op.bytesLess, h1, ih]
    · have h1 : ¬ a < b := by rw [UInt8.lt_iff_toNat_lt] at h ⊢; omega
      have h2 : ¬ a = b := fun e => by subst e; exact h1 h
      simp [Op.bytesLess, h, h1, h2]
/-- Of the first k pairs of neighbours each rises. -/
def upto (ks : List (List UInt8)) : Nat → Bool
  | 0 => true
  | k + 1 => upto ks k && Op.bytesLess (ks.getD k []) (ks.getD (k + 1) [])
theorem upto_iff (ks : List (List UInt8)) : ∀ k, upto ks k = true ↔ ∀ j, j < k → Op.bytesLess (ks.getD j []) (ks.getD (j + 1) []) = true
  | 0 => by simp [upto]
  | k + 1 => by
    simp only [upto, Bool.and_eq_true, upto_iff ks k]
    constructor
    · rintro ⟨h1, h2⟩ j hj
      rcases Nat.lt_or_ge j k with h | h
      · exact h1 j h
      · obtain rfl : j = k := by omega
        exact h2
    · intro h
      exact ⟨fun j hj => h j (by omega), h k (by omega)⟩
theorem rising_iff (ks : List (List UInt8)) : upto ks (ks.length - 1) = true ↔ Rising ks := by
  rw [upto_iff]
  unfold Rising SortedS ApartS
  constructor
  · intro h
    exact ⟨fun i hi => ((bl_iff _ _).1 (h i (by omega))).1, fun i hi => ((bl_iff _ _).1 (h i (by omega))).2⟩
  · rintro ⟨h1, h2⟩ j hj
    exact (bl_iff _ _).2 ⟨h1 j (by omega), h2 j (by omega)⟩
theorem decE_enc {ty id : List UInt8} {ks : List (List UInt8)} {vs : List VT} (hty : ty.length ≤ 32) (hid : id.length ≤ 200) (hs : SmallV (objV ks vs)) (hf : formV (objV ks vs) 0 = true) (hr : Rising ks) (r : List UInt8) : DecE (encE ty id ks vs ++ r) ty id ks vs r := by
  refine ⟨encT id ++ (encV (objV ks vs) ++ r), encV (objV ks vs) ++ r, ?_, ?_, decV_enc 24 0 rfl _ r hs hf, hr⟩
  · unfold encE
    rw [List.append_assoc, List.append_assoc]
    exact decT_encA ty _ (by omega) hty
  · exact decT_encA id _ (by omega) hid
/-- What is read is just what was laid. -/
theorem decE_only {ty id : List UInt8} {ks : List (List UInt8)} {vs : List VT} (hty : ty.length ≤ 32) (hid : id.length ≤ 200) (hs : SmallV (objV ks vs)) (hf : formV (objV ks vs) 0 = true) {r : List UInt8} {ty' id' : List UInt8} {ks' : List (List UInt8)} {vs' : List VT} {r' : List UInt8} (h : DecE (encE ty id ks vs ++ r) ty' id' ks' vs' r') : ty = ty' ∧ id = id' ∧ ks = ks' ∧ vs = vs' ∧ r = r' ∧ Rising ks := by
  obtain ⟨r1, r2, h1, h2, h3, h4⟩ := h
  unfold encE at h1
  rw [List.append_assoc, List.append_assoc, decT_encA ty _ (by omega) hty] at h1
  injection h1 with h1; injection h1 with h1 h1'
  subst h1'
  rw [decT_encA id _ (by omega) hid] at h2
  injection h2 with h2; injection h2 with h2 h2'
  subst h2'
  rw [decV_enc 24 0 rfl _ r hs hf] at h3
  injection h3 with h3; injection h3 with h3 h3'
  unfold objV at h3
  injection h3 with _ _ _ h5 h6
  exact ⟨h1, h2, h5, h6, h3', by rw [h5]; exact h4⟩
theorem texts_of {w : World} {G : Nat → Prop} {ks : List (List UInt8)} {vs : List VT} {a1 a2 a3 a5 : Value} {ak : Option Addr} {n c : Nat} (h : ValAt w G (objV ks vs) [a1, a2, a3, .slice ak n c, a5]) : TextsAt w ak ks := by
  unfold objV at h
  simp only [ValAt] at h
  obtain ⟨ak', ck, av, cv, e, h1, h2, h3, h4, h5, h6, h7⟩ := h
  simp only [List.cons.injEq, and_true] at e
  obtain ⟨-, -, -, e4, -⟩ := e
  injection e4 with e41 _ _
  subst e41
  exact fun hp => by
    obtain ⟨b, off, q1, _, q3, q4⟩ := h6 hp
    exact ⟨b, off, q1, q3, q4⟩
section
variable {H : Type} {enc : TypeId × Value → H}
theorem ent_cells : Try.prog.cellsOf 69 = 4 := by kernel_rfl
theorem list4 {α : Type} {cs : List α} (h : cs.length = 4) : ∃ a b c d, cs = [a, b, c, d] := by
  match cs, h with
  | [a, b, c, d], _ => exact ⟨a, b, c, d, rfl⟩
theorem texts_of_slice {w : World} {fuel : Nat} {cs : List Value} {x : DataW H × List MemPlace} (h : DataW.trod enc Try.prog w 0 (fun _ => true) true fuel 32 cs = some x) :
    ∃ (ks : List (List UInt8)) (a : Option Addr) (c : Nat), cs = [.slice a ks.length c] ∧ ks.length ≤ c ∧ c ≤ maxLen ∧ TextsAt w a ks ∧ ∀ s ∈ ks, s.length ≤ maxLen := by
  obtain ⟨ak, lk, ck, g3, lk1, ck1, hK⟩ := slice_of_trod (size := 1) Try.underlying32 (by kernel_rfl) (by decide) h
  rcases Nat.eq_zero_or_pos lk with h0 | h0
  · subst h0
    exact ⟨[], ak, ck, g3, by simp, ck1, (fun h => by simp at h), (fun s hs => by cases hs)⟩
  · obtain ⟨b, off, n, rfl, hn, hb, hi⟩ := hK h0
    obtain ⟨ks, h1, h2, h3⟩ := texts_row (w := w) (b := b) (off := off) lk (fun i hi' => by
      obtain ⟨cs', y, q1, q2, q3⟩ := hi i hi'
      obtain ⟨s, rfl, q4⟩ := str_cell Try.underlying9 q3
      have := q2 0 _ rfl
      rw [Nat.mul_one] at this
      exact ⟨s, this, q4⟩)
    subst h1
    exact ⟨ks, _, ck, g3, lk1, ck1, fun _ => ⟨b, off, rfl, hb, h2⟩, h3⟩
theorem vals_of_slice {w : World} {fuel : Nat} {cs : List Value} {x : DataW H × List MemPlace} (h : DataW.trod enc Try.prog w 0 (fun _ => true) true fuel 33 cs = some x) :
    ∃ (vs : List VT) (a : Option Addr) (c : Nat), cs = [.slice a vs.length c] ∧ vs.length ≤ c ∧ c ≤ maxLen ∧ (0 < vs.length → ∃ b off, a = some ⟨b, off, none⟩ ∧ b < w.heap.size ∧ ValsAt w (fun q => q < w.heap.size) vs b off) := by
  obtain ⟨av, lv, cv, g4, lv1, cv1, hV⟩ := slice_of_trod Try.underlying33 value_cells (by decide) h
  rcases Nat.eq_zero_or_pos lv with h0 | h0
  · subst h0
    exact ⟨[], av, cv, g4, by simp, cv1, (fun h => by simp at h)⟩
  · obtain ⟨b, off, n, rfl, hn, hb, hi⟩ := hV h0
    obtain ⟨vs, h1, h2⟩ := vals_row (w := w) (G := fun q => q < w.heap.size) (b := b) lv off (fun i hi' => by
      obtain ⟨cs', y, q1, q2, q3⟩ := hi i hi'
      exact ⟨cs', q1, q2, val_of_trod w n cs' y q3⟩)
    subst h1
    exact ⟨vs, _, cv, g4, lv1, cv1, fun _ => ⟨b, off, rfl, hb, h2⟩⟩
/-- An entity in memory. -/
def EntAt (w : World) (G : Nat → Prop) (ty id : List UInt8) (ks : List (List UInt8)) (vs : List VT) (cs : List Value) : Prop :=
  ∃ (ak av : Option Addr) (ck cv : Nat), cs = [.string ⟨ty.toArray⟩, .string ⟨id.toArray⟩, .slice ak ks.length ck, .slice av vs.length cv] ∧ ty.length ≤ maxLen ∧ id.length ≤ maxLen ∧
    ValAt w G (objV ks vs) [.int .u8 6, .int .i64 0, .string ByteArray.empty, .slice ak ks.length ck, .slice av vs.length cv]
theorem obj_mk {w : World} {G : Nat → Prop} {ks : List (List UInt8)} {vs : List VT} {ak av : Option Addr} {ck cv : Nat} (h4 : ks.length ≤ ck ∧ ck ≤ maxLen) (h5 : vs.length ≤ cv ∧ cv ≤ maxLen) (h6 : TextsAt w ak ks) (hG : ∀ b off, ak = some ⟨b, off, none⟩ → G b)
    (h7 : 0 < vs.length → ∃ b off, av = some ⟨b, off, none⟩ ∧ G b ∧ b < w.heap.size ∧ ValsAt w G vs b off) : ValAt w G (objV ks vs) [.int .u8 6, .int .i64 0, .string ByteArray.empty, .slice ak ks.length ck, .slice av vs.length cv] := by
  unfold objV
  simp only [ValAt]
  unfold maxLen at h4 h5
  refine ⟨ak, ck, av, cv, rfl, by decide, by decide, by decide, ⟨h4.1, by omega⟩, ⟨h5.1, by omega⟩, fun hp => ?_, h7⟩
  obtain ⟨b, off, e, hb, hr⟩ := h6 hp
  exact ⟨b, off, e, hG _ _ e, hb, hr⟩
theorem ent_of_trod (w : World) (fuel : Nat) (cs : List Value) (x : DataW H × List MemPlace) (hx : DataW.trod enc Try.prog w 0 (fun _ => true) true fuel 69 cs = some x) :
    ∃ ty id ks vs, EntAt w (fun q => q < w.heap.size) ty id ks vs cs := by
  obtain ⟨xs, m, rfl, rfl, hl, hxl, hf⟩ := DataW.trod_struct Try.underlying69 hx
  obtain ⟨e0, e1, e2, e3, rfl⟩ := list4 (hl.trans ent_cells)
  obtain ⟨y0, y1, y2, y3, rfl⟩ := list4 (hxl.trans rfl)
  have f0 := field_at hf 0 9 0 1 rfl (by kernel_rfl)
  have f1 := field_at hf 1 9 1 1 rfl (by kernel_rfl)
  have f2 := field_at hf 2 32 2 1 rfl (by kernel_rfl)
  have f3 := field_at hf 3 33 3 1 rfl (by kernel_rfl)
  obtain ⟨ty, g0, s0⟩ := str_cell Try.underlying9 f0
  obtain ⟨id, g1, s1⟩ := str_cell Try.underlying9 f1
  obtain ⟨ks, ak, ck, g2, k1, k2, hK, _⟩ := texts_of_slice f2
  obtain ⟨vs, av, cv, g3, v1, v2, hV⟩ := vals_of_slice f3
  simp at g0 g1 g2 g3
  subst g0; subst g1; subst g2; subst g3
  refine ⟨ty, id, ks, vs, ak, av, ck, cv, rfl, s0, s1, ?_⟩
  rcases Nat.eq_zero_or_pos ks.length with h0 | h0
  · have hk : ks = [] := List.eq_nil_of_length_eq_zero h0
    subst hk
    unfold objV
    simp only [ValAt]
    unfold maxLen at k2 v2
    refine ⟨ak, ck, av, cv, rfl, by decide, by decide, by decide, ⟨k1, by omega⟩, ⟨v1, by omega⟩, fun hp => by simp at hp, fun hp => ?_⟩
    obtain ⟨b, off, h1, h2, h3⟩ := hV hp
    exact ⟨b, off, h1, h2, h2, h3⟩
  · refine obj_mk ⟨k1, k2⟩ ⟨v1, v2⟩ hK (fun b off e => ?_) (fun hp => ?_)
    · obtain ⟨b', off', e', hb, _⟩ := hK h0
      rw [e] at e'; injection e' with e'; injection e' with e'; subst e'; exact hb
    · obtain ⟨b, off, h1, h2, h3⟩ := hV hp
      exact ⟨b, off, h1, h2, h2, h3⟩
theorem entity_of_Trod {w : World} {v : Value} {d : DataW H} {p : List MemPlace} (h : DataW.Trod enc Try.prog w 0 (fun _ => true) true 69 v d p) :
    ∃ ty id ks vs cs, v = .agg cs.toArray ∧ EntAt w (fun q => q < w.heap.size) ty id ks vs cs := by
  obtain ⟨fuel, hf⟩ := h
  obtain ⟨ty, id, ks, vs, ht⟩ := ent_of_trod w fuel _ _ hf
  refine ⟨ty, id, ks, vs, _, agg_of_cells rfl ?_, ht⟩
  obtain ⟨ak, av, ck, cv, e, _⟩ := ht
  rw [e]; simp
end
end Go.Proofs.Ytoojnpafcdaflaa
