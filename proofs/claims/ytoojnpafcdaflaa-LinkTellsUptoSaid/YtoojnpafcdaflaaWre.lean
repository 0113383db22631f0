/- Package wire: numbers and texts as bytes: the document's answer (ref03's Uint, Int, Text), slices.Clone, the writer's Uint, Int, Text, Done. -/
import Derived.Test.YtoojnpafcdaflaaByt
import Derived.Deep.Cut
namespace Go.Proofs.Ytoojnpafcdaflaa
open Go Go.RowKit
set_option linter.unusedVariables false
set_option linter.unusedSimpArgs false

def encU (n : Nat) : List UInt8 := if h : n < 128 then [UInt8.ofNat n] else UInt8.ofNat (n % 128 + 128) :: encU (n / 128)
termination_by n
decreasing_by omega
theorem encU_small {n : Nat} (h : n < 128) : encU n = [UInt8.ofNat n] := by rw [encU, dif_pos h]
theorem encU_big {n : Nat} (h : ¬ n < 128) : encU n = UInt8.ofNat (n % 128 + 128) :: encU (n / 128) := by rw [encU, dif_neg h]
theorem encU_len {k : Nat} : ∀ {n : Nat}, n < 128 ^ (k + 1) → (encU n).length ≤ k + 1 := by
  induction k with
  | zero => intro n h; rw [encU_small (by simpa using h)]; simp
  | succ k ih =>
    intro n h
    by_cases hn : n < 128
    · rw [encU_small hn]; simp
    · rw [encU_big hn, List.length_cons]
      have := ih (n := n / 128) (by rw [Nat.pow_succ] at h; omega)
      omega
theorem encU_len10 {n : Nat} (h : n < 18446744073709551616) : (encU n).length ≤ 10 := encU_len (k := 9) (by omega)
theorem encU_pos (n : Nat) : 0 < (encU n).length := by
  by_cases h : n < 128
  · rw [encU_small h]; simp
  · rw [encU_big h]; simp
theorem u8s_ofNat {n : Nat} (h : n < 256) : u8s [UInt8.ofNat n] = [.int .u8 (n : Int)] := by
  have e : (UInt8.ofNat n).toNat = n := by simp; omega
  show [Value.int .u8 ((UInt8.ofNat n).toNat : Int)] = _
  rw [e]
theorem u8s_cons (b : UInt8) (l : List UInt8) : u8s (b :: l) = .int .u8 (b.toNat : Int) :: u8s l := rfl

/-- What a pure call of bytes leaves: a row of its own. -/
def Makes (w : World) (l : List UInt8) (e : Ending) (w' : World) : Prop := ∃ v, e = .returned v ∧ Own8 w' w.heap.size v l ∧ Only (fun _ => False) w w'
theorem Own8.form {w : World} {B : Nat} {v : Value} {l : List UInt8} (h : Own8 w B v l) : ∃ a c, v = .slice a l.length c := by obtain ⟨a, c, e, _⟩ := h; exact ⟨a, c, e⟩
theorem Own8.le {w : World} {B : Nat} {v : Value} {l : List UInt8} (h : Own8 w B v l) : l.length ≤ 9223372036854775807 := h.bytes.len
theorem Grow.step {w w' : World} {v v' : Value} {S : Nat → Prop} {a : World} (h : Grow w w' v v') (ho : Only S a w) (hS : ∀ k, v.ownBlock = some k → S k ∨ a.heap.size ≤ k) : Only S a w' :=
  ho.trans' h.1 (fun k hk e => (hS k e).resolve_right (by omega))

theorem rUint (n : Nat) : ∀ (w : World), n < 18446744073709551616 → Calls Try.prog 29 #[.int .u64 n] w (Makes w (encU n)) := by
  induction n using Nat.strongRecOn with
  | _ n ih =>
    intro w hn
    by_cases h : n < 128
    · have e1 : decide ((n : Int) < 128) = true := by simp; omega
      have hE := encU_small h
      have hn0 : (0 : Int) ≤ (n : Int) := by omega
      have hn1 : (n : Int) ≤ 127 := by omega
      rw [hE]
      have HU := Lib.hid (u8s_ofNat (n := n) (by omega))
      clear hE ih
      go_enter Try.func29, Try.ntmps29
      go_wp2
      go_ret
      exact ⟨_, rfl, own8_new w [UInt8.ofNat n] (Nat.le_refl _) (by unfold maxLen; simp) (by rw [HU.out]), (Only.refl _ w).alloc _⟩
    · have e1 : decide ((n : Int) < 128) = false := by simp; omega
      have hE := encU_big h
      have hq : ((n / 128 : Nat) : Int) = (n : Int) / 128 := by omega
      have ih' : ∀ w, Calls Try.prog 29 #[.int .u64 ((n : Int) / 128)] w (Makes w (encU (n / 128))) := fun w => by
        have := ih (n / 128) (by omega) w (by omega)
        rwa [hq] at this
      have hm : n % 128 + 128 < 256 := by omega
      have h1 := own8_new w [UInt8.ofNat (n % 128 + 128)] (B := w.heap.size) (Nat.le_refl _) (by unfold maxLen; simp) (C := #[.int .u8 ((n : Int) % 128 + 128)]) (by
        rw [u8s_ofNat hm, show ((n % 128 + 128 : Nat) : Int) = (n : Int) % 128 + 128 from by omega])
      have hl := encU_len10 (n := n / 128) (by omega)
      rw [hE]
      have HE := Lib.hid hE; have IH := Lib.hid ih'; have H1 := Lib.hid h1; clear hE ih ih' hq hm h1
      have hn0 : (0 : Int) ≤ (n : Int) := by omega
      have hn1 : (n : Int) < 18446744073709551616 := by omega
      go_enter Try.func29, Try.ntmps29
      go_wp2_with fail
      refine (IH.out _).mono ?_
      rintro e w2 ⟨v2, rfl, h2, o2⟩
      have H2 := Lib.hid h2; have O2 := Lib.hid o2; clear h2 o2
      go_wp2_with ((refine wpList_append8 (o := ⟨some 18, _, _, _, _, _⟩) rfl (.tmp 14) (.tmp 17) (by rfl) w.heap.size _ _ [UInt8.ofNat (n % 128 + 128)] (encU (n / 128)) (by rfl) (by rfl) (H1.out.still O2.out) H2.out.bytes (by simp; omega) (by have := O2.out.size; simp at this; omega) ?_; intro L a3 c3 w3 hL h3 g3))
      go_ret
      rw [List.singleton_append] at hL
      have e3 := hL.out
      subst e3
      exact ⟨_, rfl, h3.out, g3.out.step (((Only.refl (fun _ => False) w).alloc _).trans O2.out) (fun k hk => .inr (by cases hk; exact Nat.le_refl _))⟩

def zig (i : Int) : Nat := if i < 0 then (-(i + 1) * 2 + 1).toNat else (i * 2).toNat
theorem zig_lt {i : Int} (h0 : -9223372036854775808 ≤ i) (h1 : i ≤ 9223372036854775807) : zig i < 18446744073709551616 := by unfold zig; split <;> omega
theorem rInt (i : Int) (w : World) (h0 : -9223372036854775808 ≤ i) (h1 : i ≤ 9223372036854775807) : Calls Try.prog 30 #[.int .i64 i] w (Makes w (encU (zig i))) := by
  have hu := rUint (zig i) w (zig_lt h0 h1)
  by_cases h : i < 0
  · have e1 : decide (i < 0) = true := by simpa using h
    have hz : ((zig i : Nat) : Int) = -(i + 1) * 2 + 1 := by unfold zig; rw [if_pos h]; omega
    rw [hz] at hu
    have HU := Lib.hid hu; clear hu hz
    go_enter Try.func30, Try.ntmps30
    go_wp2_with fail
    refine HU.out.mono ?_
    rintro e w2 ⟨v2, rfl, h2, o2⟩
    have H2 := Lib.hid h2; have O2 := Lib.hid o2; clear h2 o2
    go_wp2
    go_ret
    exact ⟨_, rfl, H2.out, O2.out⟩
  · have e1 : decide (i < 0) = false := by simpa using h
    have hz : ((zig i : Nat) : Int) = i * 2 := by unfold zig; rw [if_neg h]; omega
    rw [hz] at hu
    have HU := Lib.hid hu; clear hu hz
    go_enter Try.func30, Try.ntmps30
    go_wp2_with fail
    refine HU.out.mono ?_
    rintro e w2 ⟨v2, rfl, h2, o2⟩
    have H2 := Lib.hid h2; have O2 := Lib.hid o2; clear h2 o2
    go_wp2
    go_ret
    exact ⟨_, rfl, H2.out, O2.out⟩
def encT (s : List UInt8) : List UInt8 := encU s.length ++ s
set_option maxRecDepth 100000 in
theorem rText (s : List UInt8) (w : World) (hs : s.length ≤ 1000000000) : Calls Try.prog 20 #[.string ⟨s.toArray⟩] w (Makes w (encT s)) := by
  have hu := rUint s.length w (by omega)
  have hlen := encU_len10 (n := s.length) (by omega)
  have hsz : (⟨s.toArray⟩ : ByteArray).size = s.length := by simp [ByteArray.size]
  have hsl : (s.length : Int) ≤ 1000000000 := by omega
  have hsl0 : (0 : Int) ≤ (s.length : Int) := by omega
  have HU := Lib.hid hu; clear hu
  have hcv := fun w => conv_str w s (by omega)
  have HCV := Lib.hid hcv; clear hcv
  go_enter Try.func20, Try.ntmps20
  go_wp2_with fail
  refine HU.out.mono ?_
  rintro e w2 ⟨v2, rfl, h2, o2⟩
  have H2 := Lib.hid h2; have O2 := Lib.hid o2; clear h2 o2
  obtain ⟨cc, w3, hr3, hb3, o3⟩ := HCV.out w2
  have HB3 := Lib.hid hb3; have O3 := Lib.hid o3; clear hb3 o3
  go_wp2_with ((refine wpList_append8 (o := ⟨some 11, _, _, _, _, _⟩) rfl (.tmp 8) (.tmp 10) (by rfl) w.heap.size _ _ (encU s.length) s (by rfl) (by rfl) (H2.out.still O3.out) HB3.out (by omega) (Nat.le_trans O2.out.size O3.out.size) ?_; intro L a3 c3 w4 hL h3 g3))
  go_ret
  have e3 := hL.out
  subst e3
  exact ⟨_, rfl, h3.out, g3.out.step (O2.out.trans O3.out) (fun k hk => .inr (H2.out.ge hk).1)⟩

/-! ### slices.Clone -/
theorem eql_slice_nil (w : World) (a : Option Addr) (n c : Nat) : (binOp .eql 24 (.slice a n c) (.slice none 0 0)).run Try.prog w = .ok (.bool a.isNone) w := by
  simp only [binOp]
  simp [Op.equal, Op.maxDepth, Lib.run_equalIn_slice_nil (P := Try.prog) w 9999 24 5 a n c 0 0 Try.underlying24]
set_option maxRecDepth 100000 in
theorem clone_any (v : Value) (l : List UInt8) (w : World) (hb : Bytes w v l) (hl : l.length ≤ 100000000000) : Calls Try.prog 57 #[v] w (Makes w l) := by
  have HB := Lib.hid hb
  obtain ⟨a, c, rfl, h1, h2, h3⟩ := hb
  clear h3
  cases a with
  | none =>
    have hn : l = [] := by
      obtain ⟨a', c', e, _, _, h⟩ := HB.out
      rcases Nat.eq_zero_or_pos l.length with h0 | h0
      · exact List.eq_nil_of_length_eq_zero h0
      · obtain ⟨_, _, e2, _⟩ := h h0
        rw [e2] at e; cases e
    have HN := Lib.hid hn; clear hn
    have hq := eql_slice_nil w none l.length c
    go_enter Try.func57, Try.ntmps57
    go_wp2
    go_ret
    rw [HN.out]
    exact ⟨_, rfl, Own8.nil _ _, Only.refl _ _⟩
  | some ad =>
    have hnew := own8_new w [] (B := w.heap.size) (Nat.le_refl _) (by unfold maxLen; simp) (C := #[]) rfl
    have HNEW := Lib.hid hnew; clear hnew
    have o1 := (Only.refl (fun _ => False) w).alloc (.cells #[] 5)
    have O1 := Lib.hid o1; clear o1
    have hq := eql_slice_nil w (some ad) l.length c
    go_enter Try.func57, Try.ntmps57
    go_wp2_with ((refine wpList_append8 (o := ⟨some 7, _, _, _, _, _⟩) rfl (.tmp 5) (.tmp 6) (by rfl) w.heap.size _ _ [] l (by rfl) (by rfl) HNEW.out (HB.out.still O1.out) (by simp; omega) O1.out.size ?_; intro L a3 c3 w3 hL h3 g3))
    go_ret
    have e3 := hL.out
    rw [List.nil_append] at e3
    subst e3
    exact ⟨_, rfl, h3.out, g3.out.step O1.out (fun k hk => .inr (HNEW.out.ge hk).1)⟩

end Go.Proofs.Ytoojnpafcdaflaa
